/- What the program computes, and the plain laws of it, part 47. -/
import Derived.Test.YthconflkbeipoaaGreatDoorS45
import Derived.Test.YthconflkbeipoaaGreatDoorS46
namespace Go.Proofs.YthconflkbeipoaaGreatDoor
attribute [local irreducible] PL QL PWPr PCalls Weak RetK Kontr PA
open Go.RowKit
open IntWalk renaming iteOmega → iO, toNatUp → tN
set_option linter.unusedVariables false
set_option linter.unusedSimpArgs false
set_option maxRecDepth 20000
def llD (x:List Atr):List D:=[.sl 2 (x.map Atr.d)]
attribute [push_cast] llD
def nxR:List Ren → PV
 | []=>.three (.agg (Ren.e ⟨⟨#[]⟩,⟨#[]⟩,⟨#[]⟩⟩)) (.c (.v (.bool false))) (.c (.v (.int .i64 0)))
 | x :: _=>.three (.agg x.e) (.c (.v (.bool true))) (.c (.v (.int .i64 0)))
theorem nnext_no (l:List Dev) (names:List Atr) (h:Okp l) (hl:l.length≤1000) (hz:∀ d ∈ l,d.original.size≤1000) (hm:names.length≤1000000) (hv:∀ x ∈ names,x.value.size≤9223372036854775807) (hf:fitsB (nowP l) names=false) :
  PCalls Tryz.prog 24 [.agg (trE l),.c (.sl 2 (names.map Atr.d))] [] fun r os=>r = .three (.agg (Ren.e ⟨⟨#[]⟩,⟨#[]⟩,⟨#[]⟩⟩)) (.c (.v (.bool false))) (.c (.v (.int .i64 231)))∧os=[]:=by
 have hp:=plan_no l names h hl hz hm hv hf
 refine pcalls_of Tryz.func24 rfl (by simp [Tryz.ntmps24]) ?_
 rw [Tryz.ntmps24,Tryz.results24]
 push_cast [iO,tN]
 have cB:CutB 9 []:=trivial
 repeat' (first |  ((refine plc [] (hp) ?_ ?_;push_cast [iO,tN];rintro r os ⟨rfl,rfl⟩;push_cast [iO,tN]))  | ((first|refine pC ?_|refine pQC ?_|refine pU ?_);push_cast [iO,tN])|(refine pif (fun h=>?_) (fun h=>?_)<;>first|exact pN h|push_cast [iO,tN]))
 (refine retK_of [] ?_;push_cast [iO,tN])
theorem nnext_ok (l:List Dev) (names:List Atr) (h:Okp l) (hl:l.length≤1000) (hz:∀ d ∈ l,d.original.size≤1000) (hv:∀ x ∈ names,x.value.size≤9223372036854775807) (hf:fitsB (nowP l) names=true) (hP:PlanOk names (nowP l)) (hfew:names.length+(nowP l).length≤90) :
  PCalls Tryz.prog 24 [.agg (trE l),.c (.sl 2 (names.map Atr.d))] [] fun r os=>r=nxR (planOf names (nowP l))∧os=[]:=by
 have hp:=plan_ok l names h hl hz hv hf hP hfew
 refine pcalls_of Tryz.func24 rfl (by simp [Tryz.ntmps24]) ?_
 rw [Tryz.ntmps24,Tryz.results24]
 push_cast [iO,tN]
 have cB:CutB 9 []:=trivial
 have hpl:=planOf_len hP
 cases hpa:planOf names (nowP l) with
 | nil =>
  rw [hpa] at hp
  unfold nxR
  repeat' (first |  ((refine plc [] (hp) ?_ ?_;push_cast [iO,tN];rintro r os ⟨rfl,rfl⟩;push_cast [iO,tN]))  | ((first|refine pC ?_|refine pQC ?_|refine pU ?_);push_cast [iO,tN])|(refine pif (fun h=>?_) (fun h=>?_)<;>first|exact pN h|push_cast [iO,tN]))
  (refine retK_of [] ?_;push_cast [iO,tN])
 | cons x p =>
  rw [hpa] at hp hpl
  unfold nxR
  rw [List.length_cons] at hpl
  have h0:¬ ((p.length:Int)+1=0):=by omega
  repeat' (first|((refine plc [] (hp) ?_ ?_;push_cast [iO,tN,h0];rintro r os ⟨rfl,rfl⟩;push_cast [iO,tN,h0]))|((first|refine pC ?_|refine pQC ?_|refine pU ?_);push_cast [iO,tN,h0])|(refine pif (fun h=>?_) (fun h=>?_)<;>first|exact pN h|push_cast [iO,tN,h0]))
  (refine retK_of [] ?_;push_cast [iO,tN])
theorem allA_len {n:Nat}:∀ {l:List Wsh},(∀ w ∈ l,w.names.length≤n) → (allA l).length≤l.length * n:=by
 intro l
 induction l with
 | nil=>intro _;exact Nat.zero_le _
 | cons w l ih =>
  intro h
  unfold allA at ih ⊢
  rw [List.flatMap_cons,List.length_append,List.length_cons,Nat.succ_mul]
  have:=ih fun x hx=>h x (List.mem_cons_of_mem _ hx)
  have:=h w (List.mem_cons_self ..)
  omega
set_option maxHeartbeats 16000000 in
theorem nplans_pure (L:List Int) (raw:List Atr) (hL:∀ x ∈ L,-9223372036854775808≤x∧x≤9223372036854775807) (hLl:L.length≤9223372036854775807) (hRl:raw.length≤9223372036854775807) (hR:∀ x ∈ raw,x.value.size≤9223372036854775807) :
  PCalls Tryz.prog 6 [.c (.sl 1 (L.map fun x=>[D.v (.int .i64 x)])),.c (.sl 2 (raw.map Atr.d))] [] fun r os=>r = .c (.v (.bool true))∧os=[]:=by
 have hnx:=nets_ex L hL hLl
 refine pcalls_of Tryz.func6 rfl (by simp [Tryz.ntmps6]) ?_
 rw [Tryz.ntmps6,Tryz.results6]
 push_cast [iO,tN]
 have cB:CutB 19 [42,43,57,70,155]:=trivial
 by_cases hr:30 < raw.length
 ·have h30:(30:Int) < (raw.length:Int):=by omega
  repeat' (first|((refine plc [] (known23_pure) ?_ ?_;push_cast [iO,tN,h30];rintro r os ⟨rfl,rfl⟩;push_cast [iO,tN,h30]))|((first|refine pC ?_|refine pQC ?_|refine pU ?_);push_cast [iO,tN,h30])|(refine pif (fun h=>?_) (fun h=>?_)<;>first|exact pN h|push_cast [iO,tN,h30]))
  (refine retK_of [] ?_;push_cast [iO,tN])
 have h30:¬ (30:Int) < (raw.length:Int):=by omega
 repeat' (first|((refine plc [0] (hnx) ?_ ?_;push_cast [iO,tN,h30];rintro r os ⟨l,q1,hw,hq1,rfl,rfl⟩;push_cast [iO,tN,h30]))|(refine hidR 5 ?_)|(refine pwp_seq fun K hK=>?_)|((first|refine pC ?_|refine pQC ?_|refine pU ?_);push_cast [iO,tN,h30])|(refine pif (fun h=>?_) (fun h=>?_)<;>first|exact pN h|push_cast [iO,tN,h30]))
 have hwl:=hw.len
 have hzl:∀ d ∈ l,d.original.size≤1000:=fun d hd=>by have:=(hw.dev d hd).1.orig;omega
 have hnet:∀ d ∈ l,d.kind=4 → ifaceS d.original=true:=fun d hd hk=>(check_net (hw.chk d hd) hk).2
 have hwi:=fun (rs:List Rcd) (pol:List ByteArray) (hro:RcdsOk l rs) (hrl:rs.length≤l.length) (hpl:pol.length≤2)=>rwishes_pure l rs pol (by omega) hzl hro.ok (by omega) (by omega) hnet (fun d hd=>by have:=hzl d hd;show d.original.size≤_;omega)
 have has:=fun (rs:List Rcd) (pol:List ByteArray) (hpl:pol.length≤2)=>rassign_ok (wishM l rs pol) (wishM_fit (by omega) hzl hw.chk rs (by omega)) (wishM_ok hw.okt hw.ord hw.chk rs pol) (wishM_few hwl rs hpl) (by
  have h1:=allA_len (n:=4) fun w hw2=>(show w.names.length≤4 by have:=wishM_names l rs pol w hw2;omega)
  have h2:=wishM_len l rs pol
  omega)
 refine unhid ?_
 (refine pwp_cut 19 [42,43,57,70,155] ?_;apply pwp_drawn_exn (α:=(List Rcd × List ByteArray) × Nat) 19 [42,43,57,70,155] (fun x=>[(7,.c (.own 2 (wishM l x.1.1 x.1.2).length)),(8,.c (.v (.int .i64 0)))]) (fun x=>[(0,tape L x.2)]) (fun x=>[.arr 33 2 ((assignA (wishM l x.1.1 x.1.2)).map Atr.d)]) (fun x=>RcdsOk l x.1.1∧x.1.1.length≤l.length∧x.1.2.length≤2∧x.2≤600) ((([],[]),0));(focus ((try push_cast [iO,tN]);rfl));(focus kernel_rfl);(focus (simp only [List.length_cons,List.length_nil,Nat.reduceAdd];(repeat' first|((refine plc [0] ((records_ex L q1 l 9 (by omega) hw (by omega) hL hLl)) ?_ ?_;push_cast [iO,tN];rintro r os ⟨rs,q2,⟨hrl,hro⟩,hq2,rfl,rfl⟩;push_cast [iO,tN]))|((refine plc [0] ((policy_ex L q2 (by omega) hL hLl)) ?_ ?_;push_cast [iO,tN];rintro r os ⟨pol,q3,hpl,hq3,rfl,rfl⟩;push_cast [iO,tN]);refine pa_weak (weak_frz 2 (by omega)) ?_;push_cast [iO,tN])|((refine plc [] ((hwi rs pol hro hrl hpl)) ?_ ?_;push_cast [iO,tN];rintro r os ⟨rfl,rfl⟩;push_cast [iO,tN]))|((refine plc [] ((has rs pol hpl)) ?_ ?_;push_cast [iO,tN];rintro r os ⟨rfl,rfl⟩;push_cast [iO,tN]))|((first|refine pah 1 ?_|refine pah 4 ?_|refine pah 8 ?_|refine pah 9 ?_|refine pah 10 ?_|refine pah 11 ?_|refine pah 12 ?_);push_cast [iO,tN])|(refine pad ?_;try push_cast [iO,tN])|((first|refine pas [0] ?_|refine pas [2] ?_|refine pas [3] ?_|refine pas [5] ?_|refine pas [6] ?_|refine pas [7] ?_);push_cast [iO,tN])|((first|refine pas [0,2] ?_|refine pas [0,3] ?_|refine pas [0,5] ?_|refine pas [0,6] ?_|refine pas [0,7] ?_|refine pas [2,3] ?_|refine pas [2,5] ?_|refine pas [2,6] ?_|refine pas [2,7] ?_|refine pas [3,5] ?_|refine pas [3,6] ?_|refine pas [3,7] ?_|refine pas [5,6] ?_|refine pas [5,7] ?_|refine pas [6,7] ?_);push_cast [iO,tN];refine ⟨?_,?_⟩)|((first|refine pas [0,2,3] ?_|refine pas [0,2,5] ?_|refine pas [0,2,6] ?_|refine pas [0,2,7] ?_|refine pas [0,3,5] ?_|refine pas [0,3,6] ?_|refine pas [0,3,7] ?_|refine pas [0,5,6] ?_|refine pas [0,5,7] ?_|refine pas [0,6,7] ?_|refine pas [2,3,5] ?_|refine pas [2,3,6] ?_|refine pas [2,3,7] ?_|refine pas [2,5,6] ?_|refine pas [2,5,7] ?_|refine pas [2,6,7] ?_|refine pas [3,5,6] ?_|refine pas [3,5,7] ?_|refine pas [3,6,7] ?_|refine pas [5,6,7] ?_);push_cast [iO,tN];refine ⟨?_,?_,?_⟩));all_goals (refine ⟨((rs,pol),q3),⟨hro,hrl,hpl,by simp only;omega⟩,?_⟩;refine Weak.trans (weak_sw 2 (by omega)) ?_;push_cast [iO,tN];(refine weak_fg ?_;push_cast [iO,tN])))))
 rintro ⟨⟨rs,pol⟩,q⟩ ⟨hro,hrl,hpl,hq⟩
 simp only at hro hrl hpl hq
 push_cast [iO,tN]
 refine pU ?_
 have hnl:=asg_len2 (wishM l rs pol)
 have hwm:=wishM_len l rs pol
 have hni:∀ s ∈ vals (assignA (wishM l rs pol)),ifaceS s=true:=fun s hs=>by
  rw [asg_vals (wishM_ok hw.okt hw.ord hw.chk rs pol)] at hs
  refine named_iface (wishM_ok hw.okt hw.ord hw.chk rs pol) ?_ hs
  have hwn:=wantA2_len (n:=4) fun w hw2=>(show w.names.length≤4 by have:=wishM_names l rs pol w hw2;omega)
  have h1:(wishM l rs pol).length * ((wantA2 (wishM l rs pol)).length+2)≤9 * 38:=Nat.mul_le_mul (by omega) (by omega)
  omega
 have hvs:∀ x ∈ assignA (wishM l rs pol),x.value.size≤1000:=fun x hx=>by have:=iface_size (hni _ (List.mem_map.2 ⟨x,hx,rfl⟩));omega
 rw [← hnl]
 rw [← hnl] at hwm
 obtain ⟨nm,hnm⟩:∃ nm,assignA (wishM l rs pol)=nm:=⟨_,rfl⟩
 rw [hnm] at hvs hwm ⊢
 (apply pwp_mid3 (α:=List Atr × Nat) 19 [42,43,57,70,155] (fun x=>[(7,.c (.sl 2 (x.1.map Atr.d)))]) (fun x=>[(0,tape L x.2),(2,.arr 33 2 [])]) (fun x=>x.1.length≤10∧(∀ a ∈ x.1,a.value.size≤1000)) (([],0));(focus ((try push_cast [iO,tN]);rfl)))
 ·have nex:=next_ex L q 6 (by omega) (by decide) (by decide) hL hLl
  repeat' (first |  ((refine plc [0] (nex) ?_ ?_;push_cast [iO,tN];rintro r os ⟨v,⟨va,vb⟩,rfl,rfl⟩;push_cast [iO,tN]))|(refine hidR 10 ?_)|(refine pwp_seq fun K hK=>?_)  | ((first|refine pC ?_|refine pQC ?_|refine pU ?_);push_cast [iO,tN])|(refine pif (fun h=>?_) (fun h=>?_)<;>first|exact pN h|push_cast [iO,tN]))
  ·
   refine unhid ?_
   refine pwp_weak (weak_frz 2 (by omega)) ?_
   push_cast [iO,tN]
   have nex2:=next_ex L (q+1) (nm.length:Int) (by omega) (by assumption) (by omega) hL hLl
   have hdn:List.drop nm.length (List.map Atr.d nm)=[]:=by simp
   have hmt:∀ j,List.take j (List.map Atr.d nm)=(nm.take j).map Atr.d:=fun j=>by rw [List.map_take]
   (refine pwp_drawn (by kernel_rfl) ?_;try simp only [List.length_cons,List.length_nil,Nat.reduceAdd];repeat' first|((refine plc [0] (nex2) ?_ ?_;push_cast [iO,tN];rintro r os ⟨k,⟨ka,kb⟩,rfl,rfl⟩;push_cast [iO,tN]);(obtain ⟨j,rfl⟩:=Int.eq_ofNat_of_zero_le ka);push_cast [iO,tN])|(refine pl_cut3 (e:=33) (sz:=2) (h:=j) (m:=nm.length) (r:=nm.map Atr.d) rfl (by push_cast [iO,tN]) (by push_cast [iO,tN]) (by push_cast [iO,tN]) (by push_cast [iO,tN]) (by push_cast [iO,tN]) (by omega) (by simp) (by push_cast [iO,tN]) ?_;refine pl_of_pops ?_;push_cast [iO,tN])|(refine pl_appnilS (e:=33) (sz:=2) (by':=32) (l:=(nm.map Atr.d).take j) rfl (by push_cast [iO,tN]) (by push_cast [iO,tN]) (by push_cast [iO,tN,hdn]) (by push_cast [iO,tN]) (by push_cast [iO,tN]) (by omega) (by push_cast [iO,tN]) (by push_cast [iO,tN]) ?_;refine pl_of_pops ?_;push_cast [iO,tN])|((first|refine pah 0 ?_|refine pah 1 ?_|refine pah 2 ?_|refine pah 4 ?_|refine pah 6 ?_|refine pah 7 ?_|refine pah 8 ?_|refine pah 10 ?_);push_cast [iO,tN])|(refine pad ?_;try push_cast [iO,tN])|((first|refine pas [3] ?_|refine pas [5] ?_|refine pas [9] ?_);push_cast [iO,tN])|((first|refine pas [3,5] ?_|refine pas [3,9] ?_|refine pas [5,9] ?_);push_cast [iO,tN];refine ⟨?_,?_⟩)|((first|refine pas [3,5,9] ?_);push_cast [iO,tN];refine ⟨?_,?_,?_⟩))
   all_goals exact ⟨(nm.take j,q+1+1),⟨by simp only [List.length_take];omega,fun a ha=>hvs a (List.mem_of_mem_take ha)⟩,by (refine weak_fg ?_;push_cast [iO,tN,hmt])⟩
  ·exact ⟨(nm,q+1),⟨by simp only;omega,hvs⟩,by (refine Weak.trans (weak_frz 2 (by omega)) ?_;push_cast [iO,tN];(refine weak_fg ?_;push_cast [iO,tN]))⟩
  ·
   have nex2:=next_ex L (q+1) (nm.length:Int) (by omega) (by assumption) (by omega) hL hLl
   have hset:∀ (j:Nat) (s:ByteArray),(List.map Atr.d nm).set j [D.v (.string (nm.getD j default).name),D.v (.string s)]=(nm.set j ⟨(nm.getD j default).name,s⟩).map Atr.d:=fun j s=>by rw [List.map_set];rfl
   repeat' (first |  ((refine plc [0] (nex2) ?_ ?_;push_cast [iO,tN];rintro r os ⟨k,⟨ka,kb⟩,rfl,rfl⟩;push_cast [iO,tN]);(obtain ⟨j,rfl⟩:=Int.eq_ofNat_of_zero_le ka);push_cast [iO,tN])|((refine plc [0] (one_ex L (q+1+1) [⟨#[]⟩,⟨#[108,97,110,48]⟩,⟨#[97,47,98]⟩,⟨#[114,101,110,97,109,101,48]⟩,⟨#[114,101,110,97,109,101,49]⟩] (by omega) (by decide) (by decide) hL hLl) ?_ ?_;push_cast [iO,tN];rintro r os ⟨s,sm,rfl,rfl⟩;push_cast [iO,tN]))  | ((first|refine pC ?_|refine pQC ?_|refine pU ?_);push_cast [iO,tN])|(refine pif (fun h=>?_) (fun h=>?_)<;>first|exact pN h|push_cast [iO,tN]))
   have hjl:j < nm.length:=by omega
   have hsl:∀ (j:Nat) (x:Atr),((nm.set j x).map Atr.d).length=nm.length:=fun j x=>by simp
   refine ⟨(nm.set j ⟨(nm.getD j default).name,s⟩,q+1+1+1),⟨by simp only [List.length_set];omega,fun a ha=>?_⟩,by (rw [hset];obtain ⟨nm2,hnm2⟩:∃ nm2,nm.set j ⟨(nm.getD j default).name,s⟩=nm2:=⟨_,rfl⟩;have hl2:nm2.length=nm.length:=(by rw [← hnm2,List.length_set]);rw [hnm2,← hl2];refine Weak.trans (weak_frz 2 (by omega)) ?_;push_cast [iO,tN];(refine weak_fg ?_;push_cast [iO,tN]))⟩
   rcases List.mem_or_eq_of_mem_set ha with ha|ha
   ·exact hvs a ha
   ·rw [ha]
    have h5:=mem_fit (l:=[⟨#[]⟩,⟨#[108,97,110,48]⟩,⟨#[97,47,98]⟩,⟨#[114,101,110,97,109,101,48]⟩,⟨#[114,101,110,97,109,101,49]⟩]) (by decide) sm
    simp only;omega
  ·exact ⟨(nm,q+1),⟨by simp only;omega,hvs⟩,by (refine Weak.trans (weak_frz 2 (by omega)) ?_;push_cast [iO,tN];(refine weak_fg ?_;push_cast [iO,tN]))⟩
  ·
   repeat' (first |  ((refine plc [0] (one_ex L (q+1) [⟨#[47,120]⟩,⟨#[47,101,116,104,48]⟩] (by omega) (by decide) (by decide) hL hLl) ?_ ?_;push_cast [iO,tN];rintro r os ⟨s,sm,rfl,rfl⟩;push_cast [iO,tN]))  | ((first|refine pC ?_|refine pQC ?_|refine pU ?_);push_cast [iO,tN])|(refine pif (fun h=>?_) (fun h=>?_)<;>first|exact pN h|push_cast [iO,tN]))
   refine ⟨(nm++[(⟨s,⟨#[113]⟩⟩:Atr)],q+1+1),⟨by simp only [List.length_append,List.length_singleton];omega,fun a ha=>?_⟩,by (refine Weak.trans (weak_frz 2 (by omega)) ?_;push_cast [iO,tN];(refine weak_fg ?_;push_cast [iO,tN]))⟩
   rcases List.mem_append.1 ha with ha|ha
   ·exact hvs a ha
   ·rw [List.mem_singleton] at ha;rw [ha];show (⟨#[113]⟩:ByteArray).size≤1000;decide
  ·exact ⟨(nm,q+1),⟨by simp only;omega,hvs⟩,by (refine Weak.trans (weak_frz 2 (by omega)) ?_;push_cast [iO,tN];(refine weak_fg ?_;push_cast [iO,tN]))⟩
 rintro ⟨nm2,q2⟩ ⟨hn2,hv2⟩
 simp only at hn2 hv2
 push_cast [iO,tN]
 obtain ⟨LL,hLL⟩:∃ LL:List (List Atr),[raw,nm2]=LL:=⟨_,rfl⟩
 have hll:LL.length=2:=by rw [← hLL];rfl
 have hX:∀ x ∈ LL,x.length≤30∧∀ a ∈ x,a.value.size≤9223372036854775807:=fun x hx=>by
  rw [← hLL] at hx
  rcases List.mem_cons.1 hx with rfl|hx
  ·exact ⟨by omega,hR⟩
  ·rw [List.mem_singleton] at hx
   subst hx
   exact ⟨by omega,fun a ha=>by have:=hv2 a ha;omega⟩
 have hlit:[[D.sl 2 (raw.map Atr.d)],[D.sl 2 (nm2.map Atr.d)]]=LL.map llD:=by rw [← hLL];rfl
 repeat' (first|((first|refine pC ?_|refine pQC ?_|refine pU ?_);push_cast [iO,tN,hlit])|(refine pif (fun h=>?_) (fun h=>?_)<;>first|exact pN h|push_cast [iO,tN,hlit]))
 (apply pwp_loop3 (α:=Nat) 19 [42,43,57,70,155] (fun k=>[(11,.c (.v (.int .i64 k))),(10,.c (.sl 1 (LL.map llD)))]) (fun k=>[]) (fun k=>k≤2) (fun k=>2 - k) (0);(focus ((try push_cast [iO,tN]);rfl));(focus exact (Nat.zero_le _));(focus ((refine weak_fg ?_;try push_cast [iO,tN]);(try (skip)))))
 intro k hk
 push_cast [iO,tN]
 by_cases hlt:k < 2
 case neg =>
  repeat' (first|((refine plc [] (known23_pure) ?_ ?_;push_cast [iO,tN,hll];rintro r os ⟨rfl,rfl⟩;push_cast [iO,tN,hll]))|((first|refine pC ?_|refine pQC ?_|refine pU ?_);push_cast [iO,tN,hll])|(refine pif (fun h=>?_) (fun h=>?_)<;>first|exact pN h|push_cast [iO,tN,hll]))
  (refine retK_of [] ?_;push_cast [iO,tN])
 obtain ⟨x,hx⟩:∃ x,LL.getD k default=x:=⟨_,rfl⟩
 have hxm:x ∈ LL:=by rw [← hx];exact getD_mem (by omega)
 obtain ⟨hxl,hxv⟩:=hX x hxm
 have hns:=nowP_size l
 have hkll:k < LL.length:=by omega
 have hff:(false != false)=false:=rfl
 have htt:(true != true)=false:=rfl
 cases hf:fitsB (nowP l) x with
 | false =>
  have c1:=plan_no l x hw.okt.p (by omega) hzl (by omega) hxv hf
  have c2:=rplan_no l x (by omega) hzl (by omega) hxv hf
  have c3:=nnext_no l x hw.okt.p (by omega) hzl (by omega) hxv hf
  have c4:=sameren_pure [] [] (by simp) (by simp)
  rw [decide_eq_true rfl] at c4
  repeat' (first|(refine hidR 20 ?_)|((first|refine pC ?_|refine pQC ?_|refine pU ?_);push_cast [iO,tN,hx,hll])|(refine pif (fun h=>?_) (fun h=>?_)<;>first|exact pN h|push_cast [iO,tN,hx,hll]))
  refine unhid ?_
  (refine pwp_cut 19 [42,43,57,70,155] ?_;apply pwp_drawn_to;(focus kernel_rfl);(focus (simp only [List.length_cons,List.length_nil,Nat.reduceAdd];(repeat' first|((refine plc [] (c1) ?_ ?_;push_cast [iO,tN,  hx,hll];rintro r os ⟨rfl,rfl⟩;push_cast [iO,tN,  hx,hll]))|((first|refine pah 1 ?_|refine pah 2 ?_|refine pah 3 ?_|refine pah 6 ?_|refine pah 7 ?_|refine pah 8 ?_|refine pah 9 ?_|refine pah 10 ?_);push_cast [iO,tN,  hx,hll])|(refine pad ?_;first|with_reducible exact weak_cutS 19 [42,43,57,70,155] _|(refine weak_fg ?_;push_cast [iO,tN,  hx,hll]))|((first|refine pas [0] ?_|refine pas [4] ?_|refine pas [5] ?_);push_cast [iO,tN,  hx,hll])|((first|refine pas [0,4] ?_|refine pas [0,5] ?_|refine pas [4,5] ?_);push_cast [iO,tN,  hx,hll];refine ⟨?_,?_⟩)|((first|refine pas [0,4,5] ?_);push_cast [iO,tN,  hx,hll];refine ⟨?_,?_,?_⟩));done));push_cast [iO,tN,  hx,hll])
  repeat' (first|(refine hidR 21 ?_)|((first|refine pC ?_|refine pQC ?_|refine pU ?_);push_cast [iO,tN,hx,hll])|(refine pif (fun h=>?_) (fun h=>?_)<;>first|exact pN h|push_cast [iO,tN,hx,hll]))
  refine unhid ?_
  (refine pwp_cut 19 [42,43,57,70,155] ?_;apply pwp_drawn_to;(focus kernel_rfl);(focus (simp only [List.length_cons,List.length_nil,Nat.reduceAdd];(repeat' first|((refine plc [] (c2) ?_ ?_;push_cast [iO,tN,  hx,hll];rintro r os ⟨rfl,rfl⟩;push_cast [iO,tN,  hx,hll]))|((first|refine pah 1 ?_|refine pah 2 ?_|refine pah 3 ?_|refine pah 6 ?_|refine pah 7 ?_|refine pah 8 ?_|refine pah 9 ?_|refine pah 10 ?_);push_cast [iO,tN,  hx,hll])|(refine pad ?_;first|with_reducible exact weak_cutS 19 [42,43,57,70,155] _|(refine weak_fg ?_;push_cast [iO,tN,  hx,hll]))|((first|refine pas [0] ?_|refine pas [4] ?_|refine pas [5] ?_);push_cast [iO,tN,  hx,hll])|((first|refine pas [0,4] ?_|refine pas [0,5] ?_|refine pas [4,5] ?_);push_cast [iO,tN,  hx,hll];refine ⟨?_,?_⟩)|((first|refine pas [0,4,5] ?_);push_cast [iO,tN,  hx,hll];refine ⟨?_,?_,?_⟩));done));push_cast [iO,tN,  hx,hll])
  repeat' (first|(refine hidR 22 ?_)|((first|refine pC ?_|refine pQC ?_|refine pU ?_);push_cast [iO,tN,hx,hll])|(refine pif (fun h=>?_) (fun h=>?_)<;>first|exact pN h|push_cast [iO,tN,hx,hll]))
  refine unhid ?_
  (refine pwp_cut 19 [42,43,57,70,155] ?_;apply pwp_drawn_to;(focus kernel_rfl);(focus (simp only [List.length_cons,List.length_nil,Nat.reduceAdd];(repeat' first|((refine plc [] (c3) ?_ ?_;push_cast [iO,tN,  hx,hll];rintro r os ⟨rfl,rfl⟩;push_cast [iO,tN,  hx,hll]))|((first|refine pah 1 ?_|refine pah 2 ?_|refine pah 3 ?_|refine pah 6 ?_|refine pah 7 ?_|refine pah 8 ?_|refine pah 9 ?_|refine pah 12 ?_|refine pah 13 ?_);push_cast [iO,tN,  hx,hll])|(refine pad ?_;first|with_reducible exact weak_cutS 19 [42,43,57,70,155] _|(refine weak_fg ?_;push_cast [iO,tN,  hx,hll]))|((first|refine pas [0] ?_|refine pas [4] ?_|refine pas [5] ?_|refine pas [10] ?_|refine pas [11] ?_);push_cast [iO,tN,  hx,hll])|((first|refine pas [0,4] ?_|refine pas [0,5] ?_|refine pas [0,10] ?_|refine pas [0,11] ?_|refine pas [4,5] ?_|refine pas [4,10] ?_|refine pas [4,11] ?_|refine pas [5,10] ?_|refine pas [5,11] ?_|refine pas [10,11] ?_);push_cast [iO,tN,  hx,hll];refine ⟨?_,?_⟩)|((first|refine pas [0,4,5] ?_|refine pas [0,4,10] ?_|refine pas [0,4,11] ?_|refine pas [0,5,10] ?_|refine pas [0,5,11] ?_|refine pas [0,10,11] ?_|refine pas [4,5,10] ?_|refine pas [4,5,11] ?_|refine pas [4,10,11] ?_|refine pas [5,10,11] ?_);push_cast [iO,tN,  hx,hll];refine ⟨?_,?_,?_⟩)|((first|refine pas [0,4,5,10] ?_|refine pas [0,4,5,11] ?_|refine pas [0,4,10,11] ?_|refine pas [0,5,10,11] ?_|refine pas [4,5,10,11] ?_);push_cast [iO,tN,  hx,hll];refine ⟨?_,?_,?_,?_⟩));done));push_cast [iO,tN,  hx,hll])
  repeat' (first|((refine ql_call2 false rfl rfl (by kernel_rfl) (c4) (fun r os h=>h.1) rfl ?_ ?_;push_cast [iO,tN,hx,hll,hff];refine ql_of_qops ?_;push_cast [iO,tN,hx,hll,hff]))|((first|refine pC ?_|refine pQC ?_|refine pU ?_);push_cast [iO,tN,hx,hll,hff])|(refine pif (fun h=>?_) (fun h=>?_)<;>first|exact pN h|push_cast [iO,tN,hx,hll,hff]))
  exact ⟨k+1,by omega,by (refine weak_fg ?_;push_cast [iO,tN]),by omega⟩
 | true =>
  have hP:=fits_planOk hw.okt hw.net hf
  have c1:=plan_ok l x hw.okt.p (by omega) hzl hxv hf hP (by omega)
  have c2:=rplan_ok l x (by omega) hzl hxv hf hP (by omega)
  have c3:=nnext_ok l x hw.okt.p (by omega) hzl hxv hf hP (by omega)
  have hpl2:=planOf_len hP
  cases hp:planOf x (nowP l) with
  | nil =>
   rw [hp] at c1 c2 c3
   unfold nxR at c3
   have c4:=sameren_pure [] [] (by simp) (by simp)
   rw [decide_eq_true rfl] at c4
   repeat' (first|(refine hidR 20 ?_)|((first|refine pC ?_|refine pQC ?_|refine pU ?_);push_cast [iO,tN,hx,hll])|(refine pif (fun h=>?_) (fun h=>?_)<;>first|exact pN h|push_cast [iO,tN,hx,hll]))
   refine unhid ?_
   (refine pwp_cut 19 [42,43,57,70,155] ?_;apply pwp_drawn_to;(focus kernel_rfl);(focus (simp only [List.length_cons,List.length_nil,Nat.reduceAdd];(repeat' first|((refine plc [] (c1) ?_ ?_;push_cast [iO,tN,  hx,hll];rintro r os ⟨rfl,rfl⟩;push_cast [iO,tN,  hx,hll]))|((first|refine pah 1 ?_|refine pah 2 ?_|refine pah 3 ?_|refine pah 6 ?_|refine pah 7 ?_|refine pah 8 ?_|refine pah 9 ?_|refine pah 10 ?_);push_cast [iO,tN,  hx,hll])|(refine pad ?_;first|with_reducible exact weak_cutS 19 [42,43,57,70,155] _|(refine weak_fg ?_;push_cast [iO,tN,  hx,hll]))|((first|refine pas [0] ?_|refine pas [4] ?_|refine pas [5] ?_);push_cast [iO,tN,  hx,hll])|((first|refine pas [0,4] ?_|refine pas [0,5] ?_|refine pas [4,5] ?_);push_cast [iO,tN,  hx,hll];refine ⟨?_,?_⟩)|((first|refine pas [0,4,5] ?_);push_cast [iO,tN,  hx,hll];refine ⟨?_,?_,?_⟩));done));push_cast [iO,tN,  hx,hll])
   repeat' (first|(refine hidR 21 ?_)|((first|refine pC ?_|refine pQC ?_|refine pU ?_);push_cast [iO,tN,hx,hll])|(refine pif (fun h=>?_) (fun h=>?_)<;>first|exact pN h|push_cast [iO,tN,hx,hll]))
   refine unhid ?_
   (refine pwp_cut 19 [42,43,57,70,155] ?_;apply pwp_drawn_to;(focus kernel_rfl);(focus (simp only [List.length_cons,List.length_nil,Nat.reduceAdd];(repeat' first|((refine plc [] (c2) ?_ ?_;push_cast [iO,tN,  hx,hll];rintro r os ⟨rfl,rfl⟩;push_cast [iO,tN,  hx,hll]))|((first|refine pah 1 ?_|refine pah 2 ?_|refine pah 3 ?_|refine pah 6 ?_|refine pah 7 ?_|refine pah 8 ?_|refine pah 9 ?_|refine pah 10 ?_);push_cast [iO,tN,  hx,hll])|(refine pad ?_;first|with_reducible exact weak_cutS 19 [42,43,57,70,155] _|(refine weak_fg ?_;push_cast [iO,tN,  hx,hll]))|((first|refine pas [0] ?_|refine pas [4] ?_|refine pas [5] ?_);push_cast [iO,tN,  hx,hll])|((first|refine pas [0,4] ?_|refine pas [0,5] ?_|refine pas [4,5] ?_);push_cast [iO,tN,  hx,hll];refine ⟨?_,?_⟩)|((first|refine pas [0,4,5] ?_);push_cast [iO,tN,  hx,hll];refine ⟨?_,?_,?_⟩));done));push_cast [iO,tN,  hx,hll])
   repeat' (first|(refine hidR 22 ?_)|((first|refine pC ?_|refine pQC ?_|refine pU ?_);push_cast [iO,tN,hx,hll])|(refine pif (fun h=>?_) (fun h=>?_)<;>first|exact pN h|push_cast [iO,tN,hx,hll]))
   refine unhid ?_
   (refine pwp_cut 19 [42,43,57,70,155] ?_;apply pwp_drawn_to;(focus kernel_rfl);(focus (simp only [List.length_cons,List.length_nil,Nat.reduceAdd];(repeat' first|((refine plc [] (c3) ?_ ?_;push_cast [iO,tN,  hx,hll];rintro r os ⟨rfl,rfl⟩;push_cast [iO,tN,  hx,hll]))|((first|refine pah 1 ?_|refine pah 2 ?_|refine pah 3 ?_|refine pah 6 ?_|refine pah 7 ?_|refine pah 8 ?_|refine pah 9 ?_|refine pah 12 ?_|refine pah 13 ?_);push_cast [iO,tN,  hx,hll])|(refine pad ?_;first|with_reducible exact weak_cutS 19 [42,43,57,70,155] _|(refine weak_fg ?_;push_cast [iO,tN,  hx,hll]))|((first|refine pas [0] ?_|refine pas [4] ?_|refine pas [5] ?_|refine pas [10] ?_|refine pas [11] ?_);push_cast [iO,tN,  hx,hll])|((first|refine pas [0,4] ?_|refine pas [0,5] ?_|refine pas [0,10] ?_|refine pas [0,11] ?_|refine pas [4,5] ?_|refine pas [4,10] ?_|refine pas [4,11] ?_|refine pas [5,10] ?_|refine pas [5,11] ?_|refine pas [10,11] ?_);push_cast [iO,tN,  hx,hll];refine ⟨?_,?_⟩)|((first|refine pas [0,4,5] ?_|refine pas [0,4,10] ?_|refine pas [0,4,11] ?_|refine pas [0,5,10] ?_|refine pas [0,5,11] ?_|refine pas [0,10,11] ?_|refine pas [4,5,10] ?_|refine pas [4,5,11] ?_|refine pas [4,10,11] ?_|refine pas [5,10,11] ?_);push_cast [iO,tN,  hx,hll];refine ⟨?_,?_,?_⟩)|((first|refine pas [0,4,5,10] ?_|refine pas [0,4,5,11] ?_|refine pas [0,4,10,11] ?_|refine pas [0,5,10,11] ?_|refine pas [4,5,10,11] ?_);push_cast [iO,tN,  hx,hll];refine ⟨?_,?_,?_,?_⟩));done));push_cast [iO,tN,  hx,hll])
   repeat' (first|((refine ql_call2 false rfl rfl (by kernel_rfl) (c4) (fun r os h=>h.1) rfl ?_ ?_;push_cast [iO,tN,hx,hll,hff];refine ql_of_qops ?_;push_cast [iO,tN,hx,hll,hff]))|((first|refine pC ?_|refine pQC ?_|refine pU ?_);push_cast [iO,tN,hx,hll,hff])|(refine pif (fun h=>?_) (fun h=>?_)<;>first|exact pN h|push_cast [iO,tN,hx,hll,hff]))
   exact ⟨k+1,by omega,by (refine weak_fg ?_;push_cast [iO,tN]),by omega⟩
  | cons x0 p =>
   rw [hp] at c1 c2 c3 hpl2
   unfold nxR at c3
   simp only at c3
   rw [List.length_cons] at hpl2
   have c4:=sameren_pure (x0 :: p) (x0 :: p) (by rw [List.length_cons];omega) (by rw [List.length_cons];omega)
   rw [decide_eq_true rfl] at c4
   have h0:(0:Int) < (p.length:Int)+1:=by omega
   repeat' (first|(refine hidR 20 ?_)|((first|refine pC ?_|refine pQC ?_|refine pU ?_);push_cast [iO,tN,hx,hll])|(refine pif (fun h=>?_) (fun h=>?_)<;>first|exact pN h|push_cast [iO,tN,hx,hll]))
   refine unhid ?_
   (refine pwp_cut 19 [42,43,57,70,155] ?_;apply pwp_drawn_to;(focus kernel_rfl);(focus (simp only [List.length_cons,List.length_nil,Nat.reduceAdd];(repeat' first|((refine plc [] (c1) ?_ ?_;push_cast [iO,tN,  hx,hll];rintro r os ⟨rfl,rfl⟩;push_cast [iO,tN,  hx,hll]))|((first|refine pah 1 ?_|refine pah 2 ?_|refine pah 3 ?_|refine pah 6 ?_|refine pah 7 ?_|refine pah 8 ?_|refine pah 9 ?_|refine pah 10 ?_);push_cast [iO,tN,  hx,hll])|(refine pad ?_;first|with_reducible exact weak_cutS 19 [42,43,57,70,155] _|(refine weak_fg ?_;push_cast [iO,tN,  hx,hll]))|((first|refine pas [0] ?_|refine pas [4] ?_|refine pas [5] ?_);push_cast [iO,tN,  hx,hll])|((first|refine pas [0,4] ?_|refine pas [0,5] ?_|refine pas [4,5] ?_);push_cast [iO,tN,  hx,hll];refine ⟨?_,?_⟩)|((first|refine pas [0,4,5] ?_);push_cast [iO,tN,  hx,hll];refine ⟨?_,?_,?_⟩));done));push_cast [iO,tN,  hx,hll])
   repeat' (first|(refine hidR 21 ?_)|((first|refine pC ?_|refine pQC ?_|refine pU ?_);push_cast [iO,tN,hx,hll])|(refine pif (fun h=>?_) (fun h=>?_)<;>first|exact pN h|push_cast [iO,tN,hx,hll]))
   refine unhid ?_
   (refine pwp_cut 19 [42,43,57,70,155] ?_;apply pwp_drawn_to;(focus kernel_rfl);(focus (simp only [List.length_cons,List.length_nil,Nat.reduceAdd];(repeat' first|((refine plc [] (c2) ?_ ?_;push_cast [iO,tN,  hx,hll];rintro r os ⟨rfl,rfl⟩;push_cast [iO,tN,  hx,hll]))|((first|refine pah 1 ?_|refine pah 2 ?_|refine pah 3 ?_|refine pah 6 ?_|refine pah 7 ?_|refine pah 8 ?_|refine pah 9 ?_|refine pah 10 ?_);push_cast [iO,tN,  hx,hll])|(refine pad ?_;first|with_reducible exact weak_cutS 19 [42,43,57,70,155] _|(refine weak_fg ?_;push_cast [iO,tN,  hx,hll]))|((first|refine pas [0] ?_|refine pas [4] ?_|refine pas [5] ?_);push_cast [iO,tN,  hx,hll])|((first|refine pas [0,4] ?_|refine pas [0,5] ?_|refine pas [4,5] ?_);push_cast [iO,tN,  hx,hll];refine ⟨?_,?_⟩)|((first|refine pas [0,4,5] ?_);push_cast [iO,tN,  hx,hll];refine ⟨?_,?_,?_⟩));done));push_cast [iO,tN,  hx,hll])
   repeat' (first|(refine hidR 22 ?_)|((first|refine pC ?_|refine pQC ?_|refine pU ?_);push_cast [iO,tN,hx,hll])|(refine pif (fun h=>?_) (fun h=>?_)<;>first|exact pN h|push_cast [iO,tN,hx,hll]))
   refine unhid ?_
   (refine pwp_cut 19 [42,43,57,70,155] ?_;apply pwp_drawn_to;(focus kernel_rfl);(focus (simp only [List.length_cons,List.length_nil,Nat.reduceAdd];(repeat' first|((refine plc [] (c3) ?_ ?_;push_cast [iO,tN,  hx,hll];rintro r os ⟨rfl,rfl⟩;push_cast [iO,tN,  hx,hll]))|((first|refine pah 1 ?_|refine pah 2 ?_|refine pah 3 ?_|refine pah 6 ?_|refine pah 7 ?_|refine pah 8 ?_|refine pah 9 ?_|refine pah 12 ?_|refine pah 13 ?_);push_cast [iO,tN,  hx,hll])|(refine pad ?_;first|with_reducible exact weak_cutS 19 [42,43,57,70,155] _|(refine weak_fg ?_;push_cast [iO,tN,  hx,hll]))|((first|refine pas [0] ?_|refine pas [4] ?_|refine pas [5] ?_|refine pas [10] ?_|refine pas [11] ?_);push_cast [iO,tN,  hx,hll])|((first|refine pas [0,4] ?_|refine pas [0,5] ?_|refine pas [0,10] ?_|refine pas [0,11] ?_|refine pas [4,5] ?_|refine pas [4,10] ?_|refine pas [4,11] ?_|refine pas [5,10] ?_|refine pas [5,11] ?_|refine pas [10,11] ?_);push_cast [iO,tN,  hx,hll];refine ⟨?_,?_⟩)|((first|refine pas [0,4,5] ?_|refine pas [0,4,10] ?_|refine pas [0,4,11] ?_|refine pas [0,5,10] ?_|refine pas [0,5,11] ?_|refine pas [0,10,11] ?_|refine pas [4,5,10] ?_|refine pas [4,5,11] ?_|refine pas [4,10,11] ?_|refine pas [5,10,11] ?_);push_cast [iO,tN,  hx,hll];refine ⟨?_,?_,?_⟩)|((first|refine pas [0,4,5,10] ?_|refine pas [0,4,5,11] ?_|refine pas [0,4,10,11] ?_|refine pas [0,5,10,11] ?_|refine pas [4,5,10,11] ?_);push_cast [iO,tN,  hx,hll];refine ⟨?_,?_,?_,?_⟩));done));push_cast [iO,tN,  hx,hll])
   repeat' (first|((refine ql_call2 false rfl rfl (by kernel_rfl) (c4) (fun r os h=>h.1) rfl ?_ ?_;push_cast [iO,tN,hx,hll,hff,htt,h0];refine ql_of_qops ?_;push_cast [iO,tN,hx,hll,hff,htt,h0]))|((first|refine pC ?_|refine pQC ?_|refine pU ?_);push_cast [iO,tN,hx,hll,hff,htt,h0])|(refine pif (fun h=>?_) (fun h=>?_)<;>first|exact pN h|push_cast [iO,tN,hx,hll,hff,htt,h0]))
   exact ⟨k+1,by omega,by (refine weak_fg ?_;push_cast [iO,tN]),by omega⟩
end Go.Proofs.YthconflkbeipoaaGreatDoor
