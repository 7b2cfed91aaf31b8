/- What the program computes, and the plain laws of it, part 45. -/
import Derived.Test.YthconflkbeipoaaGreatDoorR44
namespace Go.Proofs.YthconflkbeipoaaGreatDoor
attribute [local irreducible] PL QL PWPr PCalls Weak RetK Kontr PA
open Go.RowKit
open IntWalk renaming iteOmega → iO, toNatUp → tN
set_option linter.unusedVariables false
set_option linter.unusedSimpArgs false
set_option maxRecDepth 20000
set_option maxHeartbeats 16000000 in
theorem nreaches_pure (L:List Int) (hL:∀ x ∈ L,-9223372036854775808≤x∧x≤9223372036854775807) (hLl:L.length≤9223372036854775807) :
  PCalls Tryz.prog 8 [.c (.sl 1 (L.map fun x=>[D.v (.int .i64 x)]))] [] fun r os=>r = .c (.v (.bool true))∧os=[]:=by
 have hnx:=nets_ex L hL hLl
 refine pcalls_of Tryz.func8 rfl (by simp [Tryz.ntmps8]) ?_
 rw [Tryz.ntmps8,Tryz.results8]
 push_cast [iO,tN]
 have cB:CutB 16 [94]:=trivial
 repeat' (first |  ((refine plc [0] (hnx) ?_ ?_;push_cast [iO,tN];rintro r os ⟨l,q1,hw,hq1,rfl,rfl⟩;push_cast [iO,tN]))|(refine hidR 3 ?_)  | ((first|refine pC ?_|refine pQC ?_|refine pU ?_);push_cast [iO,tN])|(refine pif (fun h=>?_) (fun h=>?_)<;>first|exact pN h|push_cast [iO,tN]))
 have hwl:=hw.len
 have hzl:∀ d ∈ l,d.original.size≤1000:=fun d hd=>by have:=(hw.dev d hd).1.orig;omega
 have hwi:=fun (rs:List Rcd) (pol:List ByteArray) (hro:RcdsOk l rs) (hrl:rs.length≤l.length) (hpl:pol.length≤2)=>wishes_okN l rs pol hw.okt.p (by omega) hzl hro.ok hro.nodup (by omega) (by omega)
 have has:=fun (rs:List Rcd) (pol:List ByteArray) (hpl:pol.length≤2)=>assign_ok (wishM l rs pol) (wishM_fit (by omega) hzl hw.chk rs (by omega)) (wishM_ok hw.okt hw.ord hw.chk rs pol) (wishM_few hwl rs hpl)
 refine unhid ?_
 (refine pwp_cut 16 [94] ?_;apply pwp_drawn_ex (α:=(List Rcd × List ByteArray) × Nat) 16 [94] (fun x=>[(5,.c (.sl 2 ((assignA (wishM l x.1.1 x.1.2)).map Atr.d))),(6,.c (.v (.int .i64 0)))]) (fun x=>[(0,tape L x.2)]) (fun x=>RcdsOk l x.1.1∧x.1.1.length≤l.length∧x.1.2.length≤2) ((([],[]),0));(focus ((try push_cast [iO,tN]);rfl));(focus kernel_rfl);(focus (simp only [List.length_cons,List.length_nil,Nat.reduceAdd];(repeat' first|((refine plc [0] ((records_ex L q1 l 9 (by omega) hw (by omega) hL hLl)) ?_ ?_;push_cast [iO,tN];rintro r os ⟨rs,q2,⟨hrl,hro⟩,hq2,rfl,rfl⟩;push_cast [iO,tN]))|((refine plc [0] ((policy_ex L q2 (by omega) hL hLl)) ?_ ?_;push_cast [iO,tN];rintro r os ⟨pol,q3,hpl,hq3,rfl,rfl⟩;push_cast [iO,tN]);refine pa_weak (weak_frz 2 (by omega)) ?_;push_cast [iO,tN])|((refine plc [] ((hwi rs pol hro hrl hpl)) ?_ ?_;push_cast [iO,tN];rintro r os ⟨rfl,rfl⟩;push_cast [iO,tN]))|((refine plc [] ((has rs pol hpl)) ?_ ?_;push_cast [iO,tN];rintro r os ⟨rfl,rfl⟩;push_cast [iO,tN]))|((first|refine pah 1 ?_|refine pah 4 ?_|refine pah 8 ?_|refine pah 9 ?_|refine pah 10 ?_|refine pah 11 ?_|refine pah 12 ?_);push_cast [iO,tN])|(refine pad ?_;try push_cast [iO,tN])|((first|refine pas [0] ?_|refine pas [2] ?_|refine pas [3] ?_|refine pas [5] ?_|refine pas [6] ?_|refine pas [7] ?_);push_cast [iO,tN])|((first|refine pas [0,2] ?_|refine pas [0,3] ?_|refine pas [0,5] ?_|refine pas [0,6] ?_|refine pas [0,7] ?_|refine pas [2,3] ?_|refine pas [2,5] ?_|refine pas [2,6] ?_|refine pas [2,7] ?_|refine pas [3,5] ?_|refine pas [3,6] ?_|refine pas [3,7] ?_|refine pas [5,6] ?_|refine pas [5,7] ?_|refine pas [6,7] ?_);push_cast [iO,tN];refine ⟨?_,?_⟩)|((first|refine pas [0,2,3] ?_|refine pas [0,2,5] ?_|refine pas [0,2,6] ?_|refine pas [0,2,7] ?_|refine pas [0,3,5] ?_|refine pas [0,3,6] ?_|refine pas [0,3,7] ?_|refine pas [0,5,6] ?_|refine pas [0,5,7] ?_|refine pas [0,6,7] ?_|refine pas [2,3,5] ?_|refine pas [2,3,6] ?_|refine pas [2,3,7] ?_|refine pas [2,5,6] ?_|refine pas [2,5,7] ?_|refine pas [2,6,7] ?_|refine pas [3,5,6] ?_|refine pas [3,5,7] ?_|refine pas [3,6,7] ?_|refine pas [5,6,7] ?_);push_cast [iO,tN];refine ⟨?_,?_,?_⟩));all_goals (exact ⟨((rs,pol),q3),⟨hro,hrl,hpl⟩,by (refine weak_fg ?_;push_cast [iO,tN])⟩))))
 rintro ⟨⟨rs,pol⟩,q⟩ ⟨hro,hrl,hpl⟩
 simp only at hro hrl hpl
 push_cast [iO,tN]
 have hwn:=wantA2_len (n:=4) fun w hw2=>(show w.names.length≤4 by have:=wishM_names l rs pol w hw2;omega)
 have hwm:=wishM_len l rs pol
 obtain ⟨hfit,hkeys⟩:=asg_fits hw.okt hw.ord hw.chk rs pol (by
  have h1:(wishM l rs pol).length * ((wantA2 (wishM l rs pol)).length+2)≤9 * 38:=Nat.mul_le_mul (by omega) (by omega)
  omega)
 have hni:∀ s ∈ vals (assignA (wishM l rs pol)),ifaceS s=true:=fun s hs=>by
  rw [asg_vals (wishM_ok hw.okt hw.ord hw.chk rs pol)] at hs
  refine named_iface (wishM_ok hw.okt hw.ord hw.chk rs pol) ?_ hs
  have h1:(wishM l rs pol).length * ((wantA2 (wishM l rs pol)).length+2)≤9 * 38:=Nat.mul_le_mul (by omega) (by omega)
  omega
 have hnl:=asg_len2 (wishM l rs pol)
 obtain ⟨names,hnm⟩:∃ names,assignA (wishM l rs pol)=names:=⟨_,rfl⟩
 rw [hnm] at hfit hkeys hni hnl ⊢
 have hns:=nowP_size l
 have hvs:∀ x ∈ names,x.value.size≤9223372036854775807:=fun x hx=>by have:=iface_size (hni _ (List.mem_map.2 ⟨x,hx,rfl⟩));omega
 have hPk:=fits_planOk hw.okt hw.net hfit
 have hpn:=plan_ok l names hw.okt.p (by omega) hzl hvs hfit hPk (by omega)
 have hpll:=planOf_len hPk
 obtain ⟨plan,hpa⟩:∃ plan,planOf names (nowP l)=plan:=⟨_,rfl⟩
 rw [hpa] at hpn hpll
 have h2n:¬ (2 * (names.length:Int)) < (plan.length:Int):=by omega
 repeat' (first|((refine plc [] (known23_pure) ?_ ?_;push_cast [iO,tN,h2n];rintro r os ⟨rfl,rfl⟩;push_cast [iO,tN,h2n]))|((refine plc [] (hpn) ?_ ?_;push_cast [iO,tN,h2n];rintro r os ⟨rfl,rfl⟩;push_cast [iO,tN,h2n]))|((first|refine pC ?_|refine pQC ?_|refine pU ?_);push_cast [iO,tN,h2n])|(refine pif (fun h=>?_) (fun h=>?_)<;>first|exact pN h|push_cast [iO,tN,h2n]))
 (apply pwp_loop3 (α:=Nat × List Dev) 16 [94] (fun x=>[(9,.c (.v (.int .i64 x.1)))]) (fun x=>[(1,.box 47 (trE x.2))]) (fun x=>x.1≤plan.length∧WT x.2 9∧plan.drop x.1=planOf names (nowP x.2)∧PlanOk names (nowP x.2)∧keys names=keys (nowP x.2)) (fun x=>plan.length - x.1) ((0,l));(focus ((try push_cast [iO,tN]);rfl));(focus exact ⟨Nat.zero_le _,hw,by rw [hpa];rfl,hPk,hkeys⟩);(focus ((refine weak_fg ?_;try push_cast [iO,tN]);(try (skip)))))
 rintro ⟨i,m⟩ ⟨hi,hwm2,hdr,hPm,hkm⟩
 simp only at hi hwm2 hdr hPm hkm
 push_cast [iO,tN]
 have hml:=hwm2.len
 have hzm:∀ d ∈ m,d.original.size≤1000:=fun d hd=>by have:=(hwm2.dev d hd).1.orig;omega
 have ham:∀ d ∈ m,d.attrs.length≤1000000000:=fun d hd=>by have:=(hwm2.dev d hd).1.att;omega
 by_cases hlt:i < plan.length
 case neg =>
  rw [List.drop_of_length_le (by omega)] at hdr
  have hfin:=plan_done hPm hkm (plan_nil hPm hdr.symm)
  have h4:=present_pure m hwm2.okt.p (by omega) hzm
  have h6:=sameattrs_pure (nowP m) names (by have:=nowP_size m;omega) (by omega)
  rw [decide_eq_true hfin] at h6
  repeat' (first |  ((refine plc [] (h4) ?_ ?_;push_cast [iO,tN];rintro r os ⟨rfl,rfl⟩;push_cast [iO,tN]))|((refine pl_call2 true [] rfl rfl (by kernel_rfl) (h6) ?_ ?_ ?_;push_cast [iO,tN];(intro _ r os;rintro ⟨rfl,rfl⟩;push_cast [iO,tN]);rintro r os ⟨rfl,rfl⟩;refine pl_of_pops ?_;push_cast [iO,tN]))  | ((first|refine pC ?_|refine pQC ?_|refine pU ?_);push_cast [iO,tN])|(refine pif (fun h=>?_) (fun h=>?_)<;>first|exact pN h|push_cast [iO,tN]))
  (refine retK_of [] ?_;push_cast [iO,tN])
 rw [List.drop_eq_getElem_cons hlt,← getD_lt plan hlt] at hdr
 obtain ⟨x,hx⟩:∃ x,plan.getD i default=x:=⟨_,rfl⟩
 rw [hx] at hdr
 obtain ⟨d,hS⟩:=step_tree hwm2 hPm hni (by have:=nowP_size m;omega) hdr.symm
 have hat:=at_pure m x.path hwm2.okt.p (by omega) hzm ham
 rw [hS.at_] at hat
 simp only [Option.getD_some,Option.isSome_some] at hat
 have hif:=interface_pure m x.new (by omega) ham
 rw [hS.free] at hif
 simp only [Option.getD_none,Option.isSome_none] at hif
 have hdk:=(hwm2.dev d hS.mem).1
 have hus:=iface_size hS.ifc
 have hch:=change_pure m (nameD d x.new) hwm2.okt.nodup (by omega) (fun y hy=>by have:=hzm y hy;omega) ham ⟨show x.new.size≤_ by omega,hdk.ok.original,hdk.ok.subsystem,hdk.ok.driver,hdk.ok.alias_,hdk.ok.attrs,hdk.ok.len,hdk.ok.orig⟩ (by have:=hdk.orig;show d.original.size≤_;omega) (by have:=hdk.att;show d.attrs.length≤_;omega)
 rw [hS.err,if_pos rfl,hS.tree] at hch
 unfold nameD at hch
 have hwt:=hS.wt
 have hok2:=hS.pok
 have hre:=hS.rest
 have hk2:=hS.keys
 have hold:=hS.old
 obtain ⟨m2,hm2⟩:∃ m2,m.map (renF d x.new)=m2:=⟨_,rfl⟩
 rw [hm2] at hch hwt hok2 hre hk2
 have hne:(x.old≠x.old)=False:=by simp
 repeat' (first|(refine hidR 12 ?_)|((first|refine pC ?_|refine pQC ?_|refine pU ?_);push_cast [iO,tN,hx])|(refine pif (fun h=>?_) (fun h=>?_)<;>first|exact pN h|push_cast [iO,tN,hx]))
 refine unhid ?_
 (refine pwp_cut 16 [94] ?_;apply pwp_drawn_to;(focus kernel_rfl);(focus (simp only [List.length_cons,List.length_nil,Nat.reduceAdd];(repeat' first|((refine plc [] (hat) ?_ ?_;push_cast [iO,tN,  hx];rintro r os ⟨rfl,rfl⟩;push_cast [iO,tN,  hx]))|((first|refine pah 1 ?_|refine pah 2 ?_|refine pah 3 ?_|refine pah 4 ?_|refine pah 7 ?_|refine pah 8 ?_|refine pah 9 ?_|refine pah 12 ?_);push_cast [iO,tN,  hx])|(refine pad ?_;first|with_reducible exact weak_cutS 16 [94] _|(refine weak_fg ?_;push_cast [iO,tN,  hx]))|((first|refine pas [0] ?_|refine pas [5] ?_|refine pas [6] ?_|refine pas [10] ?_|refine pas [11] ?_);push_cast [iO,tN,  hx])|((first|refine pas [0,5] ?_|refine pas [0,6] ?_|refine pas [0,10] ?_|refine pas [0,11] ?_|refine pas [5,6] ?_|refine pas [5,10] ?_|refine pas [5,11] ?_|refine pas [6,10] ?_|refine pas [6,11] ?_|refine pas [10,11] ?_);push_cast [iO,tN,  hx];refine ⟨?_,?_⟩)|((first|refine pas [0,5,6] ?_|refine pas [0,5,10] ?_|refine pas [0,5,11] ?_|refine pas [0,6,10] ?_|refine pas [0,6,11] ?_|refine pas [0,10,11] ?_|refine pas [5,6,10] ?_|refine pas [5,6,11] ?_|refine pas [5,10,11] ?_|refine pas [6,10,11] ?_);push_cast [iO,tN,  hx];refine ⟨?_,?_,?_⟩)|((first|refine pas [0,5,6,10] ?_|refine pas [0,5,6,11] ?_|refine pas [0,5,10,11] ?_|refine pas [0,6,10,11] ?_|refine pas [5,6,10,11] ?_);push_cast [iO,tN,  hx];refine ⟨?_,?_,?_,?_⟩));done));push_cast [iO,tN,  hx])
 repeat' (first|(refine hidR 13 ?_)|((first|refine pC ?_|refine pQC ?_|refine pU ?_);push_cast [iO,tN,hx])|(refine pif (fun h=>?_) (fun h=>?_)<;>first|exact pN h|push_cast [iO,tN,hx]))
 refine unhid ?_
 (refine pwp_cut 16 [94] ?_;apply pwp_drawn_to;(focus kernel_rfl);(focus (simp only [List.length_cons,List.length_nil,Nat.reduceAdd];(repeat' first|((refine plc [] (hif) ?_ ?_;push_cast [iO,tN,  hx];rintro r os ⟨rfl,rfl⟩;push_cast [iO,tN,  hx]))|((first|refine pah 1 ?_|refine pah 2 ?_|refine pah 3 ?_|refine pah 4 ?_|refine pah 7 ?_|refine pah 8 ?_|refine pah 9 ?_|refine pah 12 ?_);push_cast [iO,tN,  hx])|(refine pad ?_;first|with_reducible exact weak_cutS 16 [94] _|(refine weak_fg ?_;push_cast [iO,tN,  hx]))|((first|refine pas [0] ?_|refine pas [5] ?_|refine pas [6] ?_|refine pas [10] ?_|refine pas [11] ?_);push_cast [iO,tN,  hx])|((first|refine pas [0,5] ?_|refine pas [0,6] ?_|refine pas [0,10] ?_|refine pas [0,11] ?_|refine pas [5,6] ?_|refine pas [5,10] ?_|refine pas [5,11] ?_|refine pas [6,10] ?_|refine pas [6,11] ?_|refine pas [10,11] ?_);push_cast [iO,tN,  hx];refine ⟨?_,?_⟩)|((first|refine pas [0,5,6] ?_|refine pas [0,5,10] ?_|refine pas [0,5,11] ?_|refine pas [0,6,10] ?_|refine pas [0,6,11] ?_|refine pas [0,10,11] ?_|refine pas [5,6,10] ?_|refine pas [5,6,11] ?_|refine pas [5,10,11] ?_|refine pas [6,10,11] ?_);push_cast [iO,tN,  hx];refine ⟨?_,?_,?_⟩)|((first|refine pas [0,5,6,10] ?_|refine pas [0,5,6,11] ?_|refine pas [0,5,10,11] ?_|refine pas [0,6,10,11] ?_|refine pas [5,6,10,11] ?_);push_cast [iO,tN,  hx];refine ⟨?_,?_,?_,?_⟩));done));push_cast [iO,tN,  hx])
 repeat' (first|((refine plc [] (hch) ?_ ?_;push_cast [iO,tN,hx,hold,hne];rintro r os ⟨rfl,rfl⟩;push_cast [iO,tN,hx,hold,hne]))|((first|refine pC ?_|refine pQC ?_|refine pU ?_);push_cast [iO,tN,hx,hold,hne])|(refine pif (fun h=>?_) (fun h=>?_)<;>first|exact pN h|push_cast [iO,tN,hx,hold,hne]))
 exact ⟨(i+1,m2),⟨by simp only;omega,hwt,hre.symm,hok2,hkm.trans hk2.symm⟩,by (refine weak_fg ?_;push_cast [iO,tN]),by simp only;omega⟩
set_option maxRecDepth 20000
set_option maxHeartbeats 8000000 in
theorem rfits_pure (now names:List Atr) (hn:now.length≤1000000) (hm:names.length≤1000000) (hz:∀ x ∈ names,x.value.size≤9223372036854775807) :
  PCalls Tryz.prog 50 [.c (.sl 2 (now.map Atr.d)),.c (.sl 2 (names.map Atr.d))] [] fun r os=>r = .c (.v (.bool (fitsB now names)))∧os=[]:=by
 refine pcalls_of Tryz.func50 rfl (by simp [Tryz.ntmps50]) ?_
 rw [Tryz.ntmps50,Tryz.results50]
 push_cast [iO,tN]
 have cB:CutB 13 [65]:=trivial
 repeat' (first|((first|refine pC ?_|refine pQC ?_|refine pU ?_);push_cast [iO,tN])|(refine pif (fun h=>?_) (fun h=>?_)<;>first|exact pN h|push_cast [iO,tN]))
 (apply pwp_loop3 (α:=Nat) 13 [65] (fun k=>[(5,.c (.v (.int .i64 k)))]) (fun k=>[]) (fun k=>k≤names.length∧∀ j,j < k → fitAt now names j=true) (fun k=>names.length - k) (0);(focus ((try push_cast [iO,tN]);rfl));(focus exact ⟨Nat.zero_le _,fun j hj=>by omega⟩);(focus ((refine weak_fg ?_;try push_cast [iO,tN]))))
 rintro k ⟨hk,hpre⟩
 push_cast [iO,tN]
 by_cases hlt:k < names.length
 case pos =>
  obtain ⟨a,ha⟩:∃ a,names.getD k default=a:=⟨_,rfl⟩
  have ham:a ∈ names:=by rw [← ha];exact getD_mem hlt
  have v1:=rvalue_pure now a.name (by omega)
  have v2:=rvalue_pure (names.take k) a.name (by rw [List.length_take];omega)
  have h1:=rhas_pure (names.take k) a.value (by rw [List.length_take];omega)
  have hi:=riface_pure a.value (hz a ham)
  rw [valOf_isSome] at v2
  rw [List.map_take] at v2 h1
  have hat:fitAt now names k=((((valOf now a.name).isSome && !inM a.name (keys (names.take k))) && !inM a.value (vals (names.take k))) && ifaceS a.value):=by unfold fitAt;rw [ha]
  cases hb1:(valOf now a.name).isSome with
  | false =>
   rw [hb1] at v1 hat
   rw [Bool.false_and,Bool.false_and,Bool.false_and] at hat
   have hno:=fitsB_no hlt hat
   repeat' (first|((refine plc [] (v1) ?_ ?_;push_cast [iO,tN,ha];rintro r os ⟨rfl,rfl⟩;push_cast [iO,tN,ha]))|(refine hidR 5 ?_)|((first|refine pC ?_|refine pQC ?_|refine pU ?_);push_cast [iO,tN,ha])|(refine pif (fun h=>?_) (fun h=>?_)<;>first|exact pN h|push_cast [iO,tN,ha]))
   refine unhid ?_
   (refine pwp_cut 13 [65] ?_;apply pwp_drawn_to;(focus kernel_rfl);(focus (simp only [List.length_cons,List.length_nil,Nat.reduceAdd];(repeat' first|((refine plc [] (v2) ?_ ?_;push_cast [iO,tN,  ha];rintro r os ⟨rfl,rfl⟩;push_cast [iO,tN,  ha]))|((first|refine pah 0 ?_|refine pah 1 ?_|refine pah 2 ?_|refine pah 3 ?_|refine pah 4 ?_|refine pah 5 ?_|refine pah 6 ?_|refine pah 9 ?_|refine pah 10 ?_|refine pah 11 ?_|refine pah 12 ?_|refine pah 13 ?_);push_cast [iO,tN,  ha])|(refine pad ?_;first|with_reducible exact weak_cutS 13 [65] _|(refine weak_fg ?_;push_cast [iO,tN,  ha]))|((first|refine pas [7] ?_|refine pas [8] ?_);push_cast [iO,tN,  ha])|((first|refine pas [7,8] ?_);push_cast [iO,tN,  ha];refine ⟨?_,?_⟩));done));push_cast [iO,tN,  ha])
   repeat' (first|((refine ql_call2 false rfl rfl (by kernel_rfl) (h1) (fun r os h=>h.1) rfl ?_ ?_;push_cast [iO,tN,ha];refine ql_of_qops ?_;push_cast [iO,tN,ha]))|((refine ql_call2 false rfl rfl (by kernel_rfl) (hi) (fun r os h=>h.1) rfl ?_ ?_;push_cast [iO,tN,ha];refine ql_of_qops ?_;push_cast [iO,tN,ha]))|((first|refine pC ?_|refine pQC ?_|refine pU ?_);push_cast [iO,tN,ha])|(refine pif (fun h=>?_) (fun h=>?_)<;>first|exact pN h|push_cast [iO,tN,ha]))
   (refine retK_of [] ?_;push_cast [iO,tN,hno])
  | true =>
   rw [hb1] at v1 hat
   cases hb2:inM a.name (keys (names.take k)) with
   | true =>
    rw [hb2] at v2 hat
    have hno:=fitsB_no hlt (hat.trans (by simp))
    repeat' (first|((refine plc [] (v1) ?_ ?_;push_cast [iO,tN,ha];rintro r os ⟨rfl,rfl⟩;push_cast [iO,tN,ha]))|(refine hidR 5 ?_)|((first|refine pC ?_|refine pQC ?_|refine pU ?_);push_cast [iO,tN,ha])|(refine pif (fun h=>?_) (fun h=>?_)<;>first|exact pN h|push_cast [iO,tN,ha]))
    refine unhid ?_
    (refine pwp_cut 13 [65] ?_;apply pwp_drawn_to;(focus kernel_rfl);(focus (simp only [List.length_cons,List.length_nil,Nat.reduceAdd];(repeat' first|((refine plc [] (v2) ?_ ?_;push_cast [iO,tN,  ha];rintro r os ⟨rfl,rfl⟩;push_cast [iO,tN,  ha]))|((first|refine pah 0 ?_|refine pah 1 ?_|refine pah 2 ?_|refine pah 3 ?_|refine pah 4 ?_|refine pah 5 ?_|refine pah 6 ?_|refine pah 9 ?_|refine pah 10 ?_|refine pah 11 ?_|refine pah 12 ?_|refine pah 13 ?_);push_cast [iO,tN,  ha])|(refine pad ?_;first|with_reducible exact weak_cutS 13 [65] _|(refine weak_fg ?_;push_cast [iO,tN,  ha]))|((first|refine pas [7] ?_|refine pas [8] ?_);push_cast [iO,tN,  ha])|((first|refine pas [7,8] ?_);push_cast [iO,tN,  ha];refine ⟨?_,?_⟩));done));push_cast [iO,tN,  ha])
    repeat' (first|((refine ql_call2 false rfl rfl (by kernel_rfl) (h1) (fun r os h=>h.1) rfl ?_ ?_;push_cast [iO,tN,ha];refine ql_of_qops ?_;push_cast [iO,tN,ha]))|((refine ql_call2 false rfl rfl (by kernel_rfl) (hi) (fun r os h=>h.1) rfl ?_ ?_;push_cast [iO,tN,ha];refine ql_of_qops ?_;push_cast [iO,tN,ha]))|((first|refine pC ?_|refine pQC ?_|refine pU ?_);push_cast [iO,tN,ha])|(refine pif (fun h=>?_) (fun h=>?_)<;>first|exact pN h|push_cast [iO,tN,ha]))
    (refine retK_of [] ?_;push_cast [iO,tN,hno])
   | false =>
    rw [hb2] at v2 hat
    cases hb3:inM a.value (vals (names.take k)) with
    | true =>
     rw [hb3] at h1 hat
     have hno:=fitsB_no hlt (hat.trans (by simp))
     repeat' (first|((refine plc [] (v1) ?_ ?_;push_cast [iO,tN,ha];rintro r os ⟨rfl,rfl⟩;push_cast [iO,tN,ha]))|(refine hidR 5 ?_)|((first|refine pC ?_|refine pQC ?_|refine pU ?_);push_cast [iO,tN,ha])|(refine pif (fun h=>?_) (fun h=>?_)<;>first|exact pN h|push_cast [iO,tN,ha]))
     refine unhid ?_
     (refine pwp_cut 13 [65] ?_;apply pwp_drawn_to;(focus kernel_rfl);(focus (simp only [List.length_cons,List.length_nil,Nat.reduceAdd];(repeat' first|((refine plc [] (v2) ?_ ?_;push_cast [iO,tN,  ha];rintro r os ⟨rfl,rfl⟩;push_cast [iO,tN,  ha]))|((first|refine pah 0 ?_|refine pah 1 ?_|refine pah 2 ?_|refine pah 3 ?_|refine pah 4 ?_|refine pah 5 ?_|refine pah 6 ?_|refine pah 9 ?_|refine pah 10 ?_|refine pah 11 ?_|refine pah 12 ?_|refine pah 13 ?_);push_cast [iO,tN,  ha])|(refine pad ?_;first|with_reducible exact weak_cutS 13 [65] _|(refine weak_fg ?_;push_cast [iO,tN,  ha]))|((first|refine pas [7] ?_|refine pas [8] ?_);push_cast [iO,tN,  ha])|((first|refine pas [7,8] ?_);push_cast [iO,tN,  ha];refine ⟨?_,?_⟩));done));push_cast [iO,tN,  ha])
     repeat' (first|((refine ql_call2 false rfl rfl (by kernel_rfl) (h1) (fun r os h=>h.1) rfl ?_ ?_;push_cast [iO,tN,ha];refine ql_of_qops ?_;push_cast [iO,tN,ha]))|((refine ql_call2 false rfl rfl (by kernel_rfl) (hi) (fun r os h=>h.1) rfl ?_ ?_;push_cast [iO,tN,ha];refine ql_of_qops ?_;push_cast [iO,tN,ha]))|((first|refine pC ?_|refine pQC ?_|refine pU ?_);push_cast [iO,tN,ha])|(refine pif (fun h=>?_) (fun h=>?_)<;>first|exact pN h|push_cast [iO,tN,ha]))
     (refine retK_of [] ?_;push_cast [iO,tN,hno])
    | false =>
     rw [hb3] at h1 hat
     cases hb4:ifaceS a.value with
     | false =>
      rw [hb4] at hi hat
      have hno:=fitsB_no hlt (hat.trans (by simp))
      repeat' (first|((refine plc [] (v1) ?_ ?_;push_cast [iO,tN,ha];rintro r os ⟨rfl,rfl⟩;push_cast [iO,tN,ha]))|(refine hidR 5 ?_)|((first|refine pC ?_|refine pQC ?_|refine pU ?_);push_cast [iO,tN,ha])|(refine pif (fun h=>?_) (fun h=>?_)<;>first|exact pN h|push_cast [iO,tN,ha]))
      refine unhid ?_
      (refine pwp_cut 13 [65] ?_;apply pwp_drawn_to;(focus kernel_rfl);(focus (simp only [List.length_cons,List.length_nil,Nat.reduceAdd];(repeat' first|((refine plc [] (v2) ?_ ?_;push_cast [iO,tN,  ha];rintro r os ⟨rfl,rfl⟩;push_cast [iO,tN,  ha]))|((first|refine pah 0 ?_|refine pah 1 ?_|refine pah 2 ?_|refine pah 3 ?_|refine pah 4 ?_|refine pah 5 ?_|refine pah 6 ?_|refine pah 9 ?_|refine pah 10 ?_|refine pah 11 ?_|refine pah 12 ?_|refine pah 13 ?_);push_cast [iO,tN,  ha])|(refine pad ?_;first|with_reducible exact weak_cutS 13 [65] _|(refine weak_fg ?_;push_cast [iO,tN,  ha]))|((first|refine pas [7] ?_|refine pas [8] ?_);push_cast [iO,tN,  ha])|((first|refine pas [7,8] ?_);push_cast [iO,tN,  ha];refine ⟨?_,?_⟩));done));push_cast [iO,tN,  ha])
      repeat' (first|((refine ql_call2 false rfl rfl (by kernel_rfl) (h1) (fun r os h=>h.1) rfl ?_ ?_;push_cast [iO,tN,ha];refine ql_of_qops ?_;push_cast [iO,tN,ha]))|((refine ql_call2 false rfl rfl (by kernel_rfl) (hi) (fun r os h=>h.1) rfl ?_ ?_;push_cast [iO,tN,ha];refine ql_of_qops ?_;push_cast [iO,tN,ha]))|((first|refine pC ?_|refine pQC ?_|refine pU ?_);push_cast [iO,tN,ha])|(refine pif (fun h=>?_) (fun h=>?_)<;>first|exact pN h|push_cast [iO,tN,ha]))
      (refine retK_of [] ?_;push_cast [iO,tN,hno])
     | true =>
      rw [hb4] at hi hat
      have hok:fitAt now names k=true:=hat.trans (by simp)
      repeat' (first|((refine plc [] (v1) ?_ ?_;push_cast [iO,tN,ha];rintro r os ⟨rfl,rfl⟩;push_cast [iO,tN,ha]))|(refine hidR 5 ?_)|((first|refine pC ?_|refine pQC ?_|refine pU ?_);push_cast [iO,tN,ha])|(refine pif (fun h=>?_) (fun h=>?_)<;>first|exact pN h|push_cast [iO,tN,ha]))
      refine unhid ?_
      (refine pwp_cut 13 [65] ?_;apply pwp_drawn_to;(focus kernel_rfl);(focus (simp only [List.length_cons,List.length_nil,Nat.reduceAdd];(repeat' first|((refine plc [] (v2) ?_ ?_;push_cast [iO,tN,  ha];rintro r os ⟨rfl,rfl⟩;push_cast [iO,tN,  ha]))|((first|refine pah 0 ?_|refine pah 1 ?_|refine pah 2 ?_|refine pah 3 ?_|refine pah 4 ?_|refine pah 5 ?_|refine pah 6 ?_|refine pah 9 ?_|refine pah 10 ?_|refine pah 11 ?_|refine pah 12 ?_|refine pah 13 ?_);push_cast [iO,tN,  ha])|(refine pad ?_;first|with_reducible exact weak_cutS 13 [65] _|(refine weak_fg ?_;push_cast [iO,tN,  ha]))|((first|refine pas [7] ?_|refine pas [8] ?_);push_cast [iO,tN,  ha])|((first|refine pas [7,8] ?_);push_cast [iO,tN,  ha];refine ⟨?_,?_⟩));done));push_cast [iO,tN,  ha])
      repeat' (first|((refine ql_call2 false rfl rfl (by kernel_rfl) (h1) (fun r os h=>h.1) rfl ?_ ?_;push_cast [iO,tN,ha];refine ql_of_qops ?_;push_cast [iO,tN,ha]))|((refine ql_call2 false rfl rfl (by kernel_rfl) (hi) (fun r os h=>h.1) rfl ?_ ?_;push_cast [iO,tN,ha];refine ql_of_qops ?_;push_cast [iO,tN,ha]))|((first|refine pC ?_|refine pQC ?_|refine pU ?_);push_cast [iO,tN,ha])|(refine pif (fun h=>?_) (fun h=>?_)<;>first|exact pN h|push_cast [iO,tN,ha]))
      refine ⟨k+1,⟨by omega,fun j hj=>?_⟩,by (refine weak_fg ?_;push_cast [iO,tN]),by omega⟩
      by_cases e:j=k
      ·rw [e];exact hok
      ·exact hpre j (by omega)
 case neg =>
  have hk2:k=names.length:=by omega
  subst hk2
  have hall:((List.range names.length).all fun i=>fitAt now names i)=true:=List.all_eq_true.2 fun j hj=>hpre j (List.mem_range.1 hj)
  repeat' (first|((first|refine pC ?_|refine pQC ?_|refine pU ?_);push_cast [iO,tN])|(refine pif (fun h=>?_) (fun h=>?_)<;>first|exact pN h|push_cast [iO,tN]))
  (apply pwp_loop3 (α:=Nat) 13 [65] (fun i=>[(10,.c (.v (.int .i64 i)))]) (fun i=>[]) (fun i=>i≤now.length∧∀ j,j < i → (inM (now.getD j default).value (vals names) && !inM (now.getD j default).name (keys names))=false) (fun i=>now.length - i) (0);(focus ((try push_cast [iO,tN]);rfl));(focus exact ⟨Nat.zero_le _,fun j hj=>by omega⟩);(focus ((refine weak_fg ?_;try push_cast [iO,tN]))))
  rintro i ⟨hi,hpi⟩
  push_cast [iO,tN]
  by_cases hit:i < now.length
  case neg =>
   have hany:(now.any fun x=>inM x.value (vals names) && !inM x.name (keys names))=false:=by
    rw [List.any_eq_false]
    intro x hx
    obtain ⟨j,hj,rfl⟩:=List.getElem_of_mem hx
    have:=hpi j (by omega)
    rw [getD_lt now hj] at this
    simp [this]
   have hok:fitsB now names=true:=by unfold fitsB;rw [hall,hany];rfl
   repeat' (first|((first|refine pC ?_|refine pQC ?_|refine pU ?_);push_cast [iO,tN])|(refine pif (fun h=>?_) (fun h=>?_)<;>first|exact pN h|push_cast [iO,tN]))
   (refine retK_of [] ?_;push_cast [iO,tN,hok])
  obtain ⟨a,ha⟩:∃ a,now.getD i default=a:=⟨_,rfl⟩
  have ham:a ∈ now:=by rw [← ha];exact getD_mem hit
  have v1:=rvalue_pure names a.name (by omega)
  have h1:=rhas_pure names a.value (by omega)
  rw [valOf_isSome] at v1
  cases hb1:inM a.name (keys names) with
  | true =>
   rw [hb1] at v1
   repeat' (first|((refine plc [] (v1) ?_ ?_;push_cast [iO,tN,ha];rintro r os ⟨rfl,rfl⟩;push_cast [iO,tN,ha]))|((refine plc [] (h1) ?_ ?_;push_cast [iO,tN,ha];rintro r os ⟨rfl,rfl⟩;push_cast [iO,tN,ha]))|((first|refine pC ?_|refine pQC ?_|refine pU ?_);push_cast [iO,tN,ha])|(refine pif (fun h=>?_) (fun h=>?_)<;>first|exact pN h|push_cast [iO,tN,ha]))
   refine ⟨i+1,⟨by omega,fun j hj=>?_⟩,by (refine weak_fg ?_;push_cast [iO,tN]),by omega⟩
   by_cases e:j=i
   ·rw [e,ha,hb1,Bool.not_true,Bool.and_false]
   ·exact hpi j (by omega)
  | false =>
   rw [hb1] at v1
   cases hb2:inM a.value (vals names) with
   | true =>
    rw [hb2] at h1
    have hany:(now.any fun x=>inM x.value (vals names) && !inM x.name (keys names))=true:=List.any_eq_true.2 ⟨a,ham,by rw [hb1,hb2];rfl⟩
    have hno:fitsB now names=false:=by unfold fitsB;rw [hany];simp
    repeat' (first|((refine plc [] (v1) ?_ ?_;push_cast [iO,tN,ha];rintro r os ⟨rfl,rfl⟩;push_cast [iO,tN,ha]))|((refine plc [] (h1) ?_ ?_;push_cast [iO,tN,ha];rintro r os ⟨rfl,rfl⟩;push_cast [iO,tN,ha]))|((first|refine pC ?_|refine pQC ?_|refine pU ?_);push_cast [iO,tN,ha])|(refine pif (fun h=>?_) (fun h=>?_)<;>first|exact pN h|push_cast [iO,tN,ha]))
    (refine retK_of [] ?_;push_cast [iO,tN,hno])
   | false =>
    rw [hb2] at h1
    repeat' (first|((refine plc [] (v1) ?_ ?_;push_cast [iO,tN,ha];rintro r os ⟨rfl,rfl⟩;push_cast [iO,tN,ha]))|((refine plc [] (h1) ?_ ?_;push_cast [iO,tN,ha];rintro r os ⟨rfl,rfl⟩;push_cast [iO,tN,ha]))|((first|refine pC ?_|refine pQC ?_|refine pU ?_);push_cast [iO,tN,ha])|(refine pif (fun h=>?_) (fun h=>?_)<;>first|exact pN h|push_cast [iO,tN,ha]))
    refine ⟨i+1,⟨by omega,fun j hj=>?_⟩,by (refine weak_fg ?_;push_cast [iO,tN]),by omega⟩
    by_cases e:j=i
    ·rw [e,ha,hb2,Bool.false_and]
    ·exact hpi j (by omega)
end Go.Proofs.YthconflkbeipoaaGreatDoor
