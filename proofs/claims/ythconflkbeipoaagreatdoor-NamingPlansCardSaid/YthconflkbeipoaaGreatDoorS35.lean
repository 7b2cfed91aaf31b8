/- What the program computes, and the plain laws of it, part 35. -/
import Derived.Test.YthconflkbeipoaaGreatDoorS34
namespace Go.Proofs.YthconflkbeipoaaGreatDoor
attribute [local irreducible] PL QL PWPr PCalls Weak RetK Kontr PA
open Go.RowKit
open IntWalk renaming iteOmega → iO, toNatUp → tN
set_option linter.unusedVariables false
set_option linter.unusedSimpArgs false
set_option maxRecDepth 20000
structure WT (l:List Dev) (n:Nat):Prop where
 okt:Okt l
 len:l.length≤n
 dev:∀ d ∈ l,WDev d∧1≤d.index∧d.index≤n
 ord:OrdT l
 nod:NodT l
 chk:∀ d ∈ l,checkM d=0
 net:NetT l
theorem WT.nil (n:Nat):WT [] n:=⟨Okt.nil,Nat.zero_le _,fun d hd=>by simp at hd,OrdT.nil,NodT.nil,(fun d hd=>by simp at hd),NetT.nil⟩
theorem WT.more {l:List Dev} {n m:Nat} (h:WT l n) (hm:n≤m):WT l m:=⟨h.okt,by have:=h.len;omega,fun d hd=>⟨(h.dev d hd).1,(h.dev d hd).2.1,by have:=(h.dev d hd).2.2;omega⟩,h.ord,h.nod,h.chk,h.net⟩
theorem wins_mem {l:List Dev} {d x:Dev} (h:x ∈ insT l d):x=d∨x ∈ l:=by unfold insT at h;exact put_mem.1 h
theorem wins_len (l:List Dev) (d:Dev):(insT l d).length=l.length+1:=by
 have:=atM_le l (ownM l d) l.length
 unfold insT
 simp only [List.length_append,List.length_take,List.length_drop,List.length_cons,List.length_nil]
 omega
theorem WT.ins {l:List Dev} {n:Nat} (h:WT l n) {d:Dev} (he:insErr l d=0) (hd:WDev d) (h1:1≤d.index) (h2:d.index≤(n:Int)+1):WT (insT l d) (n+1):=by
 refine ⟨(h.okt.ins he).1,by rw [wins_len];have:=h.len;omega,fun x hx=>?_,h.ord.ins h.okt he,h.nod.ins he,fun x hx=>(wins_mem hx).elim (fun e=>by rw [e];exact (ins_split he).1) (h.chk x),h.net.ins he⟩
 rcases wins_mem hx with rfl|hx
 ·exact ⟨hd,h1,by omega⟩
 ·obtain ⟨a,b,c⟩:=h.dev x hx
  exact ⟨a,b,by omega⟩
set_option maxHeartbeats 4000000 in
theorem wtree_ex (L:List Int) (k n:Nat) (hk:k < 50000) (hn:n≤10) (hL:∀ x ∈ L,-9223372036854775808≤x∧x≤9223372036854775807) (hLl:L.length≤9223372036854775807) :
  PCalls Tryz.prog 42 [.c (.ptr 0 0),.c (.v (.int .i64 n))] [tape L k] fun r os=>∃ (l:List Dev) (k':Nat),WT l n∧k'≤k+1+20 * n∧r = .agg (trE l)∧os=[tape L k']:=by
 refine pcalls_of Tryz.func42 rfl (by simp [Tryz.ntmps42]) ?_
 rw [Tryz.ntmps42,Tryz.results42]
 push_cast [iO,tN]
 have cB:CutB 9 []:=trivial
 have n1:=next_ex L k ((n:Int)+1) (by omega) (by omega) (by omega) hL hLl
 repeat' (first |  ((refine plc [0] (n1) ?_ ?_;push_cast [iO,tN];rintro r os ⟨v,⟨va,vb⟩,rfl,rfl⟩;push_cast [iO,tN]))  | ((first|refine pC ?_|refine pQC ?_|refine pU ?_);push_cast [iO,tN])|(refine pif (fun h=>?_) (fun h=>?_)<;>first|exact pN h|push_cast [iO,tN]))
 obtain ⟨m,rfl⟩:∃ m:Nat,v=(m:Int):=⟨v.toNat,by omega⟩
 have hm:m≤n:=by omega
 (apply pwp_loop3 (α:=Nat × List Dev × Nat) 9 [] (fun x=>[(6,.c (.v (.int .i64 x.1)))]) (fun x=>[(0,tape L x.2.2),(2,.box 47 (trE x.2.1))]) (fun x=>x.1≤m∧WT x.2.1 (m - x.1)∧x.2.2+20 * x.1≤k+1+20 * m) (fun x=>x.1) ((m,[],k+1));(focus ((try push_cast [iO,tN]);rfl));(focus exact ⟨Nat.le_refl _,WT.nil _,Nat.le_refl _⟩);(focus ((refine weak_fg ?_;try push_cast [iO,tN]))))
 rintro ⟨j,l,q⟩ ⟨h1,h2,h3⟩
 simp only at h1 h2 h3
 push_cast [iO,tN]
 have hll:=h2.len
 by_cases hlt:0 < j
 case neg =>
  have hj:j=0:=by omega
  subst hj
  repeat' (first|((first|refine pC ?_|refine pQC ?_|refine pU ?_);push_cast [iO,tN])|(refine pif (fun h=>?_) (fun h=>?_)<;>first|exact pN h|push_cast [iO,tN]))
  (refine retK_of [0] ?_;push_cast [iO,tN])
  exact ⟨_,_,leP_refl _,leOs_refl _,l,q,h2.more (by omega),by omega,rfl,rfl⟩
 have hc:(0:Int) < (j:Int):=by omega
 have hj1:(j:Int) - 1=((j - 1:Nat):Int):=by omega
 have hdv:=wdev_ex L q l (m - j) (by omega) (by omega) (by omega) (fun d hd=>(h2.dev d hd).2.2) (fun d hd=>by have:=(h2.dev d hd).2.1;omega) hL hLl
 have hzl:∀ d ∈ l,d.original.size≤100000:=fun d hd=>by have:=(h2.dev d hd).1.orig;omega
 have hins:∀ d:Dev,WDev d → PCalls Tryz.prog 85 [.agg (trE l),.agg d.e] [] fun r os=>r = .two (.agg (trE (if insErr l d=0 then insT l d else []))) (.c (.v (.int .i64 (insErr l d))))∧os=[]:=fun d hd=>rins_pure l d hd.ok (by have:=hd.orig;omega) hzl (by omega)
 repeat' (first|(refine hidR 5 ?_)|((first|refine pC ?_|refine pQC ?_|refine pU ?_);push_cast [iO,tN,hc])|(refine pif (fun h=>?_) (fun h=>?_)<;>first|exact pN h|push_cast [iO,tN,hc]))
 refine unhid ?_
 (refine pwp_drawn (by kernel_rfl) ?_;try simp only [List.length_cons,List.length_nil,Nat.reduceAdd];repeat' first|(refine plc [0] (hdv) ?_ ?_;push_cast [iO,tN,  hc];rintro r os ⟨d,q2,⟨e1,e2,e3⟩,e4,rfl,rfl⟩;push_cast [iO,tN,  hc])|(refine plc [] ((hins d e1)) ?_ ?_;push_cast [iO,tN,  hc];rintro r os ⟨rfl,rfl⟩;push_cast [iO,tN,  hc])|((first|refine pah 1 ?_|refine pah 5 ?_|refine pah 6 ?_|refine pah 7 ?_);push_cast [iO,tN,  hc])|(refine pad ?_;try push_cast [iO,tN,  hc])|((first|refine pas [0] ?_|refine pas [2] ?_|refine pas [3] ?_|refine pas [4] ?_|refine pas [8] ?_|refine pas [9] ?_|refine pas [10] ?_);push_cast [iO,tN,  hc])|((first|refine pas [0,2] ?_|refine pas [0,3] ?_|refine pas [0,4] ?_|refine pas [0,8] ?_|refine pas [0,9] ?_|refine pas [0,10] ?_|refine pas [2,3] ?_|refine pas [2,4] ?_|refine pas [2,8] ?_|refine pas [2,9] ?_|refine pas [2,10] ?_|refine pas [3,4] ?_|refine pas [3,8] ?_|refine pas [3,9] ?_|refine pas [3,10] ?_|refine pas [4,8] ?_|refine pas [4,9] ?_|refine pas [4,10] ?_|refine pas [8,9] ?_|refine pas [8,10] ?_|refine pas [9,10] ?_);push_cast [iO,tN,  hc];refine ⟨?_,?_⟩)|((first|refine pas [0,2,3] ?_|refine pas [0,2,4] ?_|refine pas [0,2,8] ?_|refine pas [0,2,9] ?_|refine pas [0,2,10] ?_|refine pas [0,3,4] ?_|refine pas [0,3,8] ?_|refine pas [0,3,9] ?_|refine pas [0,3,10] ?_|refine pas [0,4,8] ?_|refine pas [0,4,9] ?_|refine pas [0,4,10] ?_|refine pas [0,8,9] ?_|refine pas [0,8,10] ?_|refine pas [0,9,10] ?_|refine pas [2,3,4] ?_|refine pas [2,3,8] ?_|refine pas [2,3,9] ?_|refine pas [2,3,10] ?_|refine pas [2,4,8] ?_|refine pas [2,4,9] ?_|refine pas [2,4,10] ?_|refine pas [2,8,9] ?_|refine pas [2,8,10] ?_|refine pas [2,9,10] ?_|refine pas [3,4,8] ?_|refine pas [3,4,9] ?_|refine pas [3,4,10] ?_|refine pas [3,8,9] ?_|refine pas [3,8,10] ?_|refine pas [3,9,10] ?_|refine pas [4,8,9] ?_|refine pas [4,8,10] ?_|refine pas [4,9,10] ?_|refine pas [8,9,10] ?_);push_cast [iO,tN,  hc];refine ⟨?_,?_,?_⟩))
 all_goals by_cases he:insErr l d=0
 all_goals repeat' (first|((first|refine pC ?_|refine pQC ?_|refine pU ?_);push_cast [iO,tN,he,if_true,if_false])|(refine pif (fun h=>?_) (fun h=>?_)<;>first|exact pN h|push_cast [iO,tN,he,if_true,if_false]))
 all_goals first|exact ⟨(j - 1,insT l d,q2),⟨by simp only;omega,(h2.ins he e1 e2 e3).more (by simp only;omega),by simp only;omega⟩,by rw [← hj1];(refine weak_fg ?_;push_cast [iO,tN]),by simp only;omega⟩|exact ⟨(j - 1,l,q2),⟨by simp only;omega,h2.more (by simp only;omega),by simp only;omega⟩,by rw [← hj1];(refine weak_fg ?_;push_cast [iO,tN]),by simp only;omega⟩
theorem WDev.net {d:Dev} (h:WDev d) {nm o:ByteArray} (h1:nm.size≤100) (h2:o.size≤20):WDev ⟨d.index,d.parent,nm,o,⟨#[110,101,116]⟩,d.driver,d.alias_,4,0,[]⟩ :=
 ⟨⟨fit_of h1 (by decide),fit_of h2 (by decide),fit_of (show (⟨#[110,101,116]⟩:ByteArray).size≤100 by decide) (by decide),h.ok.driver,h.ok.alias_,(fun a ha=>by cases ha),(by simp),(by show o.size≤_;omega)⟩,h2,(by simp),(by simp)⟩
set_option maxHeartbeats 8000000 in
theorem nets_ex (L:List Int) (hL:∀ x ∈ L,-9223372036854775808≤x∧x≤9223372036854775807) (hLl:L.length≤9223372036854775807) :
  PCalls Tryz.prog 19 [.c (.ptr 0 0)] [tape L 0] fun r os=>∃ (l:List Dev) (k':Nat),WT l 9∧k'≤300∧r = .agg (trE l)∧os=[tape L k']:=by
 have w1:=wtree_ex L 0 4 (by omega) (by omega) hL hLl
 refine pcalls_of Tryz.func19 rfl (by simp [Tryz.ntmps19]) ?_
 rw [Tryz.ntmps19,Tryz.results19]
 push_cast [iO,tN]
 have cB:CutB 8 []:=trivial
 repeat' (first |  ((refine plc [0] (w1) ?_ ?_;push_cast [iO,tN];rintro r os ⟨l0,q0,hw,hq,rfl,rfl⟩;push_cast [iO,tN]))|((refine plc [0] (next_ex L q0 6 (by omega) (by decide) (by decide) hL hLl) ?_ ?_;push_cast [iO,tN];rintro r os ⟨v,⟨va,vb⟩,rfl,rfl⟩;push_cast [iO,tN]))  | ((first|refine pC ?_|refine pQC ?_|refine pU ?_);push_cast [iO,tN])|(refine pif (fun h=>?_) (fun h=>?_)<;>first|exact pN h|push_cast [iO,tN]))
 obtain ⟨m,rfl⟩:∃ m:Nat,v=(m:Int):=⟨v.toNat,by omega⟩
 (apply pwp_loop3 (α:=Nat × List Dev × Nat) 8 [] (fun x=>[(4,.c (.v (.int .i64 x.1)))]) (fun x=>[(0,tape L x.2.2),(2,.box 47 (trE x.2.1))]) (fun x=>x.1≤m∧WT x.2.1 (4+m - x.1)∧x.2.2+30 * x.1≤100+30 * m) (fun x=>x.1) ((m,l0,q0+1));(focus ((try push_cast [iO,tN]);rfl));(focus exact ⟨Nat.le_refl _,hw.more (by simp only;omega),by simp only;omega⟩);(focus ((refine weak_fg ?_;try push_cast [iO,tN]))))
 rintro ⟨j,l,q⟩ ⟨h1,h2,h3⟩
 simp only at h1 h2 h3
 push_cast [iO,tN]
 have hll:=h2.len
 by_cases hlt:0 < j
 case neg =>
  have hj:j=0:=by omega
  subst hj
  repeat' (first|((first|refine pC ?_|refine pQC ?_|refine pU ?_);push_cast [iO,tN])|(refine pif (fun h=>?_) (fun h=>?_)<;>first|exact pN h|push_cast [iO,tN]))
  (refine retK_of [0] ?_;push_cast [iO,tN])
  exact ⟨_,_,leP_refl _,leOs_refl _,l,q,h2.more (by omega),by omega,rfl,rfl⟩
 have hc:(0:Int) < (j:Int):=by omega
 have hj1:(j:Int) - 1=((j - 1:Nat):Int):=by omega
 have hdv:=wdev_ex L q l (4+m - j) (by omega) (by omega) (by omega) (fun d hd=>(h2.dev d hd).2.2) (fun d hd=>by have:=(h2.dev d hd).2.1;omega) hL hLl
 have hzl:∀ d ∈ l,d.original.size≤1000:=fun d hd=>by have:=(h2.dev d hd).1.orig;omega
 have hal:∀ d ∈ l,d.attrs.length≤1000000000:=fun d hd=>by have:=(h2.dev d hd).1.att;omega
 have hins:∀ d:Dev,WDev d → PCalls Tryz.prog 44 [.agg (trE l),.agg d.e] [] fun r os=>r = .two (.agg (trE (if insErr l d=0 then insT l d else []))) (.c (.v (.int .i64 (insErr l d))))∧os=[]:=fun d hd=>tins_pure l d h2.okt h2.ord (by omega) hzl hal hd.ok (by have:=hd.orig;omega) (by have:=hd.att;omega)
 have o1:∀ q2,q2≤q+20 → PCalls Tryz.prog 14 [.c (.ptr 0 0),.c (.sl 1 ([⟨#[101,116,104,48]⟩,⟨#[101,116,104,49]⟩,⟨#[97]⟩,⟨#[98]⟩,⟨#[105,102,48]⟩].map strD))] [tape L q2] _:=fun q2 h=>one_ex L q2 [⟨#[101,116,104,48]⟩,⟨#[101,116,104,49]⟩,⟨#[97]⟩,⟨#[98]⟩,⟨#[105,102,48]⟩] (by omega) (by decide) (by decide) hL hLl
 have o2:∀ q2 o,q2≤q+20 → PCalls Tryz.prog 14 [.c (.ptr 0 0),.c (.sl 1 ([o,⟨#[108,97,110,48]⟩,⟨#[108,97,110,49]⟩,⟨#[114,101,110,97,109,101,48]⟩,⟨#[105,102,48]⟩,⟨#[101,116,104,49]⟩].map strD))] [tape L (q2+1)] _:=fun q2 o h=>one_ex L (q2+1) [o,⟨#[108,97,110,48]⟩,⟨#[108,97,110,49]⟩,⟨#[114,101,110,97,109,101,48]⟩,⟨#[105,102,48]⟩,⟨#[101,116,104,49]⟩] (by omega) (by simp) (by simp) hL hLl
 repeat' (first|((refine plc [0] (hdv) ?_ ?_;push_cast [iO,tN,hc];rintro r os ⟨d,q2,⟨e1,e2,e3⟩,e4,rfl,rfl⟩;push_cast [iO,tN,hc]))|((refine plc [0] ((o1 q2 e4)) ?_ ?_;push_cast [iO,tN,hc];rintro r os ⟨o,om,rfl,rfl⟩;push_cast [iO,tN,hc]))|((refine plc [0] ((o2 q2 o e4)) ?_ ?_;push_cast [iO,tN,hc];rintro r os ⟨nm,nmm,rfl,rfl⟩;push_cast [iO,tN,hc]))|((refine plc [] ((hins ⟨d.index,d.parent,nm,o,⟨#[110,101,116]⟩,d.driver,d.alias_,4,0,[]⟩ (e1.net (by simp only [List.mem_cons,List.not_mem_nil,or_false] at nmm;rcases nmm with rfl|rfl|rfl|rfl|rfl|rfl;exact mem_fit (by decide) om;all_goals decide) (mem_fit20 (by decide) om)))) ?_ ?_;push_cast [iO,tN,hc];rintro r os ⟨rfl,rfl⟩;push_cast [iO,tN,hc]))|((first|refine pC ?_|refine pQC ?_|refine pU ?_);push_cast [iO,tN,hc])|(refine pif (fun h=>?_) (fun h=>?_)<;>first|exact pN h|push_cast [iO,tN,hc]))
 ·have he:insErr l ⟨d.index,d.parent,nm,o,⟨#[110,101,116]⟩,d.driver,d.alias_,4,0,[]⟩=0:=by assumption
  have hw:=(e1.net (nm:=nm) (o:=o) (by simp only [List.mem_cons,List.not_mem_nil,or_false] at nmm;rcases nmm with rfl|rfl|rfl|rfl|rfl|rfl;exact mem_fit (by decide) om;all_goals decide) (mem_fit20 (by decide) om))
  simp only [if_pos he]
  exact ⟨(j - 1,insT l ⟨d.index,d.parent,nm,o,⟨#[110,101,116]⟩,d.driver,d.alias_,4,0,[]⟩,q2+1+1),⟨by simp only;omega,(h2.ins he hw e2 e3).more (by simp only;omega),by simp only;omega⟩,by rw [← hj1];(refine weak_fg ?_;push_cast [iO,tN]),by simp only;omega⟩
 ·exact ⟨(j - 1,l,q2+1+1),⟨by simp only;omega,h2.more (by simp only;omega),by simp only;omega⟩,by rw [← hj1];(refine weak_fg ?_;push_cast [iO,tN]),by simp only;omega⟩
set_option maxHeartbeats 2000000 in
theorem policy_ex (L:List Int) (k:Nat) (hk:k < 90000) (hL:∀ x ∈ L,-9223372036854775808≤x∧x≤9223372036854775807) (hLl:L.length≤9223372036854775807) :
  PCalls Tryz.prog 22 [.c (.ptr 0 0)] [tape L k] fun r os=>∃ (o:List ByteArray) (k':Nat),(o.length≤2)∧k'≤k+3∧r = .c (.own 1 o.length)∧os=[tape L k',.arr 9 1 (o.map strD)]:=by
 refine pcalls_of Tryz.func22 rfl (by simp [Tryz.ntmps22]) ?_
 rw [Tryz.ntmps22,Tryz.results22]
 push_cast [iO,tN]
 have cB:CutB 5 []:=trivial
 repeat' (first |  ((refine plc [0] (next_ex L k 3 (by omega) (by decide) (by decide) hL hLl) ?_ ?_;push_cast [iO,tN];rintro r os ⟨v,⟨va,vb⟩,rfl,rfl⟩;push_cast [iO,tN]))  | ((first|refine pC ?_|refine pQC ?_|refine pU ?_);push_cast [iO,tN])|(refine pif (fun h=>?_) (fun h=>?_)<;>first|exact pN h|push_cast [iO,tN]))
 obtain ⟨m,rfl⟩:∃ m:Nat,v=(m:Int):=⟨v.toNat,by omega⟩
 refine pwp_weak (weak_adopt 3 9 1 (by omega) (by push_cast [iO,tN])) ?_
 push_cast [iO,tN]
 (apply pwp_loop3 (α:=Nat × List ByteArray × Nat) 5 [] (fun x=>[(4,.c (.v (.int .i64 x.1))),(3,.c (.own 1 x.2.1.length))]) (fun x=>[(0,tape L x.2.2),(1,.arr 9 1 (x.2.1.map strD))]) (fun x=>x.2.1.length+x.1≤2∧x.2.2+x.1≤k+3) (fun x=>x.1) ((m,[],k+1));(focus ((try push_cast [iO,tN]);rfl));(focus exact ⟨by simp only [List.length_nil];omega,by simp only;omega⟩);(focus ((refine weak_fg ?_;try push_cast [iO,tN]))))
 rintro ⟨j,o,q⟩ ⟨h1,h3⟩
 simp only at h1 h3
 push_cast [iO,tN]
 by_cases hlt:0 < j
 case neg =>
  have hj:j=0:=by omega
  subst hj
  repeat' (first|((first|refine pC ?_|refine pQC ?_|refine pU ?_);push_cast [iO,tN])|(refine pif (fun h=>?_) (fun h=>?_)<;>first|exact pN h|push_cast [iO,tN]))
  (refine retK_of [0,1] ?_;push_cast [iO,tN])
  exact ⟨_,_,leP_refl _,leOs_refl _,o,q,by omega,by omega,rfl,rfl⟩
 have h4:(0:Int) < (j:Int):=by omega
 have h5:(j:Int) - 1=((j - 1:Nat):Int):=by omega
 have o1:=one_ex L q [⟨#[73,68,95,78,69,84,95,78,65,77,69,95,83,76,79,84]⟩,⟨#[73,68,95,78,69,84,95,78,65,77,69,95,77,65,67]⟩,⟨#[73,68,95,65]⟩,⟨#[73,78,84,69,82,70,65,67,69]⟩] (by omega) (by decide) (by decide) hL hLl
 repeat' (first|((refine plc [0] (o1) ?_ ?_;push_cast [iO,tN,h4];rintro r os ⟨n,nm,rfl,rfl⟩;push_cast [iO,tN,h4]))|((first|refine pC ?_|refine pQC ?_|refine pU ?_);push_cast [iO,tN,h4])|(refine pif (fun h=>?_) (fun h=>?_)<;>first|exact pN h|push_cast [iO,tN,h4]))
 exact ⟨(j - 1,o++[n],q+1),⟨by simp only [List.length_append,List.length_singleton];omega,by simp only;omega⟩,by rw [← h5];(refine weak_fg ?_;push_cast [iO,tN]),by simp only;omega⟩
set_option maxRecDepth 20000
def stepA (n v:ByteArray) (s:List Atr × Bool) (x:Atr):List Atr × Bool :=
 let s1:=if !s.2 && !bless x.name n then (s.1++[⟨n,v⟩],true) else s
 if x.name=n then s1 else (s1.1++[x],s1.2)
def toA (n v:ByteArray) (l:List Atr):List Atr × Bool:=l.foldl (stepA n v) ([],decide (v=⟨#[]⟩))
def refA (l:List Atr) (n v:ByteArray):List Atr:=if (toA n v l).2 then (toA n v l).1 else (toA n v l).1++[⟨n,v⟩]
theorem toA_snoc (n v:ByteArray) (l:List Atr) (x:Atr):toA n v (l++[x])=stepA n v (toA n v l) x:=by simp [toA]
theorem toA_next {n v:ByteArray} {l:List Atr} {k:Nat} (hk:k < l.length) {s s2:List Atr × Bool} (h:toA n v (l.take k)=s) (hs:stepA n v s (l.getD k default)=s2):toA n v (l.take (k+1))=s2:=by
 rw [List.take_succ_eq_append_getElem hk,toA_snoc,h,← getD_lt l hk,hs]
def opn:Bool → Nat
 | true=>0
 | false=>1
theorem step_len (n v:ByteArray) (s:List Atr × Bool) (x:Atr):(stepA n v s x).1.length+opn (stepA n v s x).2≤s.1.length+opn s.2+1:=by
 obtain ⟨o,b⟩:=s
 cases b<;>cases hb:bless x.name n<;>by_cases hn:x.name=n<;>simp [stepA,hb,hn,opn]
 all_goals (rw [hn] at hb;simp [hb])
theorem fold_len (n v:ByteArray):∀ (l:List Atr) (s:List Atr × Bool),(l.foldl (stepA n v) s).1.length+opn (l.foldl (stepA n v) s).2≤s.1.length+opn s.2+l.length
 | [],s=>Nat.le_refl _
 | x :: l,s=>by
  have h1:=fold_len n v l (stepA n v s x)
  have h2:=step_len n v s x
  simp only [List.foldl_cons,List.length_cons]
  omega
theorem refA_len (l:List Atr) (n v:ByteArray):(refA l n v).length≤l.length+1:=by
 have h:=fold_len n v l ([],decide (v=⟨#[]⟩))
 have h0:opn (([],decide (v=⟨#[]⟩)):List Atr × Bool).2≤1:=by cases decide (v=⟨#[]⟩)<;>decide
 have h1:(([],decide (v=⟨#[]⟩)):List Atr × Bool).1.length=0:=rfl
 rw [h1] at h
 show (if (toA n v l).2 then (toA n v l).1 else (toA n v l).1++[⟨n,v⟩]).length≤_
 unfold toA
 split
 ·omega
 ·rename_i hd
  have hd2:(l.foldl (stepA n v) ([],decide (v=⟨#[]⟩))).2=false:=by simpa using hd
  rw [hd2] at h
  have:opn false=1:=rfl
  rw [List.length_append,List.length_singleton]
  omega
theorem fold_in (n v:ByteArray) (M:List Atr):∀ (l:List Atr) (s:List Atr × Bool),SetIn M n v s.1 → (∀ a ∈ l,a ∈ M) → SetIn M n v (l.foldl (stepA n v) s).1
 | [],s,h,_=>h
 | x :: l,s,h,hl=>by
  rw [List.foldl_cons]
  refine fold_in n v M l _ ?_ (fun a ha=>hl a (List.mem_cons_of_mem _ ha))
  have hx:x ∈ M:=hl x (List.mem_cons_self ..)
  unfold stepA
  simp only
  split<;>split
  ·exact h.snoc (.inr rfl)
  ·exact h
  ·exact (h.snoc (.inr rfl)).snoc (.inl hx)
  ·exact h.snoc (.inl hx)
theorem refA_in (l:List Atr) (n v:ByteArray):SetIn l n v (refA l n v):=by
 have h:=fold_in n v l l ([],decide (v=⟨#[]⟩)) SetIn.nil (fun a ha=>ha)
 unfold refA toA
 split
 ·exact h
 ·exact h.snoc (.inr rfl)
set_option maxHeartbeats 2000000 in
theorem rset_pure (l:List Atr) (n v:ByteArray) (hb:l.length≤1000000) :
  PCalls Tryz.prog 87 [.c (.sl 2 (l.map Atr.d)),.c (.v (.string n)),.c (.v (.string v))] [] fun r os=>r = .c (.sl 2 ((refA l n v).map Atr.d))∧os=[]:=by
 refine pcalls_of Tryz.func87 rfl (by simp [Tryz.ntmps87]) ?_
 rw [Tryz.ntmps87,Tryz.results87]
 push_cast [iO,tN]
 have cB:CutB 10 []:=trivial
 repeat' (first|((first|refine pC ?_|refine pQC ?_|refine pU ?_);push_cast [iO,tN])|(refine pif (fun h=>?_) (fun h=>?_)<;>first|exact pN h|push_cast [iO,tN]))
 refine pwp_weak (weak_adopt 7 33 2 (by omega) (by push_cast [iO,tN])) ?_
 push_cast [iO,tN]
 (apply pwp_loop3 (α:=Nat × List Atr × Bool) 10 [] (fun x=>[(9,.c (.v (.int .i64 x.1))),(8,.c (.v (.bool x.2.2))),(7,.c (.own 0 x.2.1.length))]) (fun x=>[(0,.arr 33 2 (x.2.1.map Atr.d))]) (fun x=>x.1≤l.length∧toA n v (l.take x.1)=x.2∧x.2.1.length≤2 * x.1) (fun x=>l.length - x.1) ((0,[],decide (v=⟨#[]⟩)));(focus ((try push_cast [iO,tN]);rfl));(focus exact ⟨Nat.zero_le _,rfl,Nat.zero_le _⟩);(focus ((refine weak_fg ?_;try push_cast [iO,tN]))))
 rintro ⟨k,o,done⟩ ⟨hk,h1,h2⟩
 simp only at hk h1 h2 ⊢
 push_cast [iO,tN]
 by_cases hlt:k < l.length
 ·cases done
  ·cases hc:bless (l.getD k default).name n
   ·by_cases hn:(l.getD k default).name=n
    ·have ht:=toA_next hlt h1 (s2:=(o++[⟨n,v⟩],true)) (by simp only [stepA];rw [if_pos hn,hc];rfl)
     rw [hn] at hc
     repeat' (first|((first|refine pC ?_|refine pQC ?_|refine pU ?_);push_cast [iO,tN,hc,hn])|(refine pif (fun h=>?_) (fun h=>?_)<;>first|exact pN h|push_cast [iO,tN,hc,hn]))
     exact ⟨(k+1,o++[⟨n,v⟩],true),⟨by simp only;omega,ht,by simp only [List.length_append,List.length_singleton];omega⟩,by (refine weak_fg ?_;push_cast [iO,tN]),by simp only;omega⟩
    ·have ht:=toA_next hlt h1 (s2:=(o++[⟨n,v⟩]++[l.getD k default],true)) (by simp only [stepA];rw [if_neg hn,hc];rfl)
     repeat' (first|((first|refine pC ?_|refine pQC ?_|refine pU ?_);push_cast [iO,tN,hc,hn])|(refine pif (fun h=>?_) (fun h=>?_)<;>first|exact pN h|push_cast [iO,tN,hc,hn]))
     exact ⟨(k+1,o++[⟨n,v⟩]++[l.getD k default],true),⟨by simp only;omega,ht,by simp only [List.length_append,List.length_singleton];omega⟩,by (refine weak_fg ?_;push_cast [iO,tN]),by simp only;omega⟩
   ·by_cases hn:(l.getD k default).name=n
    ·rw [hn] at hc
     exact absurd (bless_ne hc) (fun h=>h rfl)
    ·have ht:=toA_next hlt h1 (s2:=(o++[l.getD k default],false)) (by simp only [stepA];rw [if_neg hn,hc];rfl)
     repeat' (first|((first|refine pC ?_|refine pQC ?_|refine pU ?_);push_cast [iO,tN,hc,hn])|(refine pif (fun h=>?_) (fun h=>?_)<;>first|exact pN h|push_cast [iO,tN,hc,hn]))
     exact ⟨(k+1,o++[l.getD k default],false),⟨by simp only;omega,ht,by simp only [List.length_append,List.length_singleton];omega⟩,by (refine weak_fg ?_;push_cast [iO,tN]),by simp only;omega⟩
  ·by_cases hn:(l.getD k default).name=n
   ·have ht:=toA_next hlt h1 (s2:=(o,true)) (by simp only [stepA];rw [if_pos hn];rfl)
    repeat' (first|((first|refine pC ?_|refine pQC ?_|refine pU ?_);push_cast [iO,tN,hn])|(refine pif (fun h=>?_) (fun h=>?_)<;>first|exact pN h|push_cast [iO,tN,hn]))
    exact ⟨(k+1,o,true),⟨by simp only;omega,ht,by simp only;omega⟩,by (refine weak_fg ?_;push_cast [iO,tN]),by simp only;omega⟩
   ·have ht:=toA_next hlt h1 (s2:=(o++[l.getD k default],true)) (by simp only [stepA];rw [if_neg hn];rfl)
    repeat' (first|((first|refine pC ?_|refine pQC ?_|refine pU ?_);push_cast [iO,tN,hn])|(refine pif (fun h=>?_) (fun h=>?_)<;>first|exact pN h|push_cast [iO,tN,hn]))
    exact ⟨(k+1,o++[l.getD k default],true),⟨by simp only;omega,ht,by simp only [List.length_append,List.length_singleton];omega⟩,by (refine weak_fg ?_;push_cast [iO,tN]),by simp only;omega⟩
 ·have hk2:k=l.length:=by omega
  subst hk2
  rw [List.take_length] at h1
  cases done
  ·have hr:refA l n v=o++[⟨n,v⟩]:=by unfold refA;rw [h1];rfl
   rw [hr]
   repeat' (first|((first|refine pC ?_|refine pQC ?_|refine pU ?_);push_cast [iO,tN])|(refine pif (fun h=>?_) (fun h=>?_)<;>first|exact pN h|push_cast [iO,tN]))
   (refine retK_of [] ?_;push_cast [iO,tN])
  ·have hr:refA l n v=o:=by unfold refA;rw [h1];rfl
   rw [hr]
   repeat' (first|((first|refine pC ?_|refine pQC ?_|refine pU ?_);push_cast [iO,tN])|(refine pif (fun h=>?_) (fun h=>?_)<;>first|exact pN h|push_cast [iO,tN]))
   (refine retK_of [] ?_;push_cast [iO,tN])
def FitV (o:List Atr):Prop:=∀ a ∈ o,Fit a.value
theorem FitV.nil:FitV []:=fun a ha=>by cases ha
theorem FitV.set {l:List Atr} {n v:ByteArray} (h:FitV l) (hv:Fit v):FitV (refA l n v):=fun a ha=>by
 rcases refA_in l n v a ha with h1|h1
 ·exact h a h1
 ·rw [h1];exact hv
def baseL (l:List Dev) (d:Dev):List Atr :=
 let a:=refA (refA (refA (refA [] ⟨#[68,69,86,80,65,84,72]⟩ (placeM l d.index)) ⟨#[83,85,66,83,89,83,84,69,77]⟩ d.subsystem) ⟨#[68,82,73,86,69,82]⟩ d.driver) ⟨#[77,79,68,65,76,73,65,83]⟩ d.alias_
 let b:=if hasN d then refA (refA a ⟨#[68,69,86,78,65,77,69]⟩ (nodeM d)) ⟨#[78,85,77,66,69,82]⟩ (digN d.number.toNat) else a
 if d.kind=4 then refA b ⟨#[73,78,84,69,82,70,65,67,69]⟩ d.original else b
def baseM (l:List Dev) (n:Int):List Atr:=match findD l n with
 | none=>[]
 | some d=>baseL l d
set_option maxHeartbeats 4000000 in
theorem rbase_pure (l:List Dev) (n:Int) (hl:l.length≤1000) (hz:∀ d ∈ l,d.original.size≤1000) (hnum:∀ d ∈ l,0≤d.number∧d.number≤9) :
  PCalls Tryz.prog 97 [.agg (trE l),.c (.v (.int .i64 n))] [] fun r os=>r = .c (.sl 2 ((baseM l n).map Atr.d))∧os=[]:=by
 have hf:=rfind_pure l n (by omega)
 have hp:=rplace_pure l n hl hz
 unfold baseM
 refine pcalls_of Tryz.func97 rfl (by simp [Tryz.ntmps97]) ?_
 rw [Tryz.ntmps97,Tryz.results97]
 push_cast [iO,tN]
 have cB:CutB 10 []:=trivial
 cases hfd:findD l n with
 | none =>
  rw [hfd] at hf
  repeat' (first |  ((refine plc [] (hf) ?_ ?_;push_cast [iO,tN];rintro r os ⟨rfl,rfl⟩;push_cast [iO,tN]))  | ((first|refine pC ?_|refine pQC ?_|refine pU ?_);push_cast [iO,tN])|(refine pif (fun h=>?_) (fun h=>?_)<;>first|exact pN h|push_cast [iO,tN]))
  (refine retK_of [] ?_;push_cast [iO,tN])
 | some d =>
  rw [hfd] at hf
  obtain ⟨hm,hdi⟩:=findD_some hfd
  have hno:=rnode_pure d (by have:=hz d hm;omega)
  obtain ⟨i,hi⟩:∃ i:Nat,d.number=(i:Int):=⟨d.number.toNat,by have:=hnum d hm;omega⟩
  have hit:=itoaN_pure i (by have:=hnum d hm;omega)
  have hpl:placeM l n=placeM l d.index:=by rw [hdi]
  rw [hpl] at hp
  simp only [Option.getD_some,Option.isSome_some] at hf
  unfold baseL
  simp only
  have r1:=rset_pure [] ⟨#[68,69,86,80,65,84,72]⟩ (placeM l d.index) (by simp)
  have l1:=refA_len [] ⟨#[68,69,86,80,65,84,72]⟩ (placeM l d.index)
  generalize refA [] ⟨#[68,69,86,80,65,84,72]⟩ (placeM l d.index)=p1 at r1 l1 ⊢
  have r2:=rset_pure p1 ⟨#[83,85,66,83,89,83,84,69,77]⟩ d.subsystem (by simp at l1;omega)
  have l2:=refA_len p1 ⟨#[83,85,66,83,89,83,84,69,77]⟩ d.subsystem
  generalize refA p1 ⟨#[83,85,66,83,89,83,84,69,77]⟩ d.subsystem=p2 at r2 l2 ⊢
  have r3:=rset_pure p2 ⟨#[68,82,73,86,69,82]⟩ d.driver (by simp at l1;omega)
  have l3:=refA_len p2 ⟨#[68,82,73,86,69,82]⟩ d.driver
  generalize refA p2 ⟨#[68,82,73,86,69,82]⟩ d.driver=p3 at r3 l3 ⊢
  have r4:=rset_pure p3 ⟨#[77,79,68,65,76,73,65,83]⟩ d.alias_ (by simp at l1;omega)
  have l4:=refA_len p3 ⟨#[77,79,68,65,76,73,65,83]⟩ d.alias_
  generalize refA p3 ⟨#[77,79,68,65,76,73,65,83]⟩ d.alias_=p4 at r4 l4 ⊢
  have r5:=rset_pure p4 ⟨#[68,69,86,78,65,77,69]⟩ (nodeM d) (by simp at l1;omega)
  have l5:=refA_len p4 ⟨#[68,69,86,78,65,77,69]⟩ (nodeM d)
  have r7:∀ p:List Atr,p.length≤1000 → _:=fun p h=>rset_pure p ⟨#[73,78,84,69,82,70,65,67,69]⟩ d.original (by omega)
  by_cases hh:hasN d=true
  ·generalize refA p4 ⟨#[68,69,86,78,65,77,69]⟩ (nodeM d)=p5 at r5 l5 ⊢
   have r6:=rset_pure p5 ⟨#[78,85,77,66,69,82]⟩ (digN i) (by simp at l1;omega)
   have l6:=refA_len p5 ⟨#[78,85,77,66,69,82]⟩ (digN i)
   have hnt:d.number.toNat=i:=by rw [hi];rfl
   rw [hnt]
   generalize refA p5 ⟨#[78,85,77,66,69,82]⟩ (digN i)=p6 at r6 l6 ⊢
   by_cases hk4:d.kind=4
   ·repeat' (first|((refine plc [] (hf) ?_ ?_;push_cast [iO,tN,hh,hk4,hi];rintro r os ⟨rfl,rfl⟩;push_cast [iO,tN,hh,hk4,hi]))|((refine plc [] (hp) ?_ ?_;push_cast [iO,tN,hh,hk4,hi];rintro r os ⟨rfl,rfl⟩;push_cast [iO,tN,hh,hk4,hi]))|((refine plc [] (r1) ?_ ?_;push_cast [iO,tN,hh,hk4,hi];rintro r os ⟨rfl,rfl⟩;push_cast [iO,tN,hh,hk4,hi]))|((refine plc [] (r2) ?_ ?_;push_cast [iO,tN,hh,hk4,hi];rintro r os ⟨rfl,rfl⟩;push_cast [iO,tN,hh,hk4,hi]))|((refine plc [] (r3) ?_ ?_;push_cast [iO,tN,hh,hk4,hi];rintro r os ⟨rfl,rfl⟩;push_cast [iO,tN,hh,hk4,hi]))|((refine plc [] (r4) ?_ ?_;push_cast [iO,tN,hh,hk4,hi];rintro r os ⟨rfl,rfl⟩;push_cast [iO,tN,hh,hk4,hi]))|((refine plc [] (hno) ?_ ?_;push_cast [iO,tN,hh,hk4,hi];rintro r os ⟨rfl,rfl⟩;push_cast [iO,tN,hh,hk4,hi]))|((refine plc [] (r5) ?_ ?_;push_cast [iO,tN,hh,hk4,hi];rintro r os ⟨rfl,rfl⟩;push_cast [iO,tN,hh,hk4,hi]))|((refine plc [] (hit) ?_ ?_;push_cast [iO,tN,hh,hk4,hi];rintro r os ⟨rfl,rfl⟩;push_cast [iO,tN,hh,hk4,hi]))|((refine plc [] (r6) ?_ ?_;push_cast [iO,tN,hh,hk4,hi];rintro r os ⟨rfl,rfl⟩;push_cast [iO,tN,hh,hk4,hi]))|((refine plc [] ((r7 p6 (by simp at l1;omega))) ?_ ?_;push_cast [iO,tN,hh,hk4,hi];rintro r os ⟨rfl,rfl⟩;push_cast [iO,tN,hh,hk4,hi]))|((first|refine pC ?_|refine pQC ?_|refine pU ?_);push_cast [iO,tN,hh,hk4,hi])|(refine pif (fun h=>?_) (fun h=>?_)<;>first|exact pN h|push_cast [iO,tN,hh,hk4,hi]))
    (refine retK_of [] ?_;push_cast [iO,tN])
   ·repeat' (first|((refine plc [] (hf) ?_ ?_;push_cast [iO,tN,hh,hk4,hi];rintro r os ⟨rfl,rfl⟩;push_cast [iO,tN,hh,hk4,hi]))|((refine plc [] (hp) ?_ ?_;push_cast [iO,tN,hh,hk4,hi];rintro r os ⟨rfl,rfl⟩;push_cast [iO,tN,hh,hk4,hi]))|((refine plc [] (r1) ?_ ?_;push_cast [iO,tN,hh,hk4,hi];rintro r os ⟨rfl,rfl⟩;push_cast [iO,tN,hh,hk4,hi]))|((refine plc [] (r2) ?_ ?_;push_cast [iO,tN,hh,hk4,hi];rintro r os ⟨rfl,rfl⟩;push_cast [iO,tN,hh,hk4,hi]))|((refine plc [] (r3) ?_ ?_;push_cast [iO,tN,hh,hk4,hi];rintro r os ⟨rfl,rfl⟩;push_cast [iO,tN,hh,hk4,hi]))|((refine plc [] (r4) ?_ ?_;push_cast [iO,tN,hh,hk4,hi];rintro r os ⟨rfl,rfl⟩;push_cast [iO,tN,hh,hk4,hi]))|((refine plc [] (hno) ?_ ?_;push_cast [iO,tN,hh,hk4,hi];rintro r os ⟨rfl,rfl⟩;push_cast [iO,tN,hh,hk4,hi]))|((refine plc [] (r5) ?_ ?_;push_cast [iO,tN,hh,hk4,hi];rintro r os ⟨rfl,rfl⟩;push_cast [iO,tN,hh,hk4,hi]))|((refine plc [] (hit) ?_ ?_;push_cast [iO,tN,hh,hk4,hi];rintro r os ⟨rfl,rfl⟩;push_cast [iO,tN,hh,hk4,hi]))|((refine plc [] (r6) ?_ ?_;push_cast [iO,tN,hh,hk4,hi];rintro r os ⟨rfl,rfl⟩;push_cast [iO,tN,hh,hk4,hi]))|((first|refine pC ?_|refine pQC ?_|refine pU ?_);push_cast [iO,tN,hh,hk4,hi])|(refine pif (fun h=>?_) (fun h=>?_)<;>first|exact pN h|push_cast [iO,tN,hh,hk4,hi]))
    (refine retK_of [] ?_;push_cast [iO,tN])
  ·have hh2:hasN d=false:=by simpa using hh
   by_cases hk4:d.kind=4
   ·repeat' (first|((refine plc [] (hf) ?_ ?_;push_cast [iO,tN,hh2,hk4];rintro r os ⟨rfl,rfl⟩;push_cast [iO,tN,hh2,hk4]))|((refine plc [] (hp) ?_ ?_;push_cast [iO,tN,hh2,hk4];rintro r os ⟨rfl,rfl⟩;push_cast [iO,tN,hh2,hk4]))|((refine plc [] (r1) ?_ ?_;push_cast [iO,tN,hh2,hk4];rintro r os ⟨rfl,rfl⟩;push_cast [iO,tN,hh2,hk4]))|((refine plc [] (r2) ?_ ?_;push_cast [iO,tN,hh2,hk4];rintro r os ⟨rfl,rfl⟩;push_cast [iO,tN,hh2,hk4]))|((refine plc [] (r3) ?_ ?_;push_cast [iO,tN,hh2,hk4];rintro r os ⟨rfl,rfl⟩;push_cast [iO,tN,hh2,hk4]))|((refine plc [] (r4) ?_ ?_;push_cast [iO,tN,hh2,hk4];rintro r os ⟨rfl,rfl⟩;push_cast [iO,tN,hh2,hk4]))|((refine plc [] (hno) ?_ ?_;push_cast [iO,tN,hh2,hk4];rintro r os ⟨rfl,rfl⟩;push_cast [iO,tN,hh2,hk4]))|((refine plc [] ((r7 p4 (by simp at l1;omega))) ?_ ?_;push_cast [iO,tN,hh2,hk4];rintro r os ⟨rfl,rfl⟩;push_cast [iO,tN,hh2,hk4]))|((first|refine pC ?_|refine pQC ?_|refine pU ?_);push_cast [iO,tN,hh2,hk4])|(refine pif (fun h=>?_) (fun h=>?_)<;>first|exact pN h|push_cast [iO,tN,hh2,hk4]))
    (refine retK_of [] ?_;push_cast [iO,tN])
   ·repeat' (first|((refine plc [] (hf) ?_ ?_;push_cast [iO,tN,hh2,hk4];rintro r os ⟨rfl,rfl⟩;push_cast [iO,tN,hh2,hk4]))|((refine plc [] (hp) ?_ ?_;push_cast [iO,tN,hh2,hk4];rintro r os ⟨rfl,rfl⟩;push_cast [iO,tN,hh2,hk4]))|((refine plc [] (r1) ?_ ?_;push_cast [iO,tN,hh2,hk4];rintro r os ⟨rfl,rfl⟩;push_cast [iO,tN,hh2,hk4]))|((refine plc [] (r2) ?_ ?_;push_cast [iO,tN,hh2,hk4];rintro r os ⟨rfl,rfl⟩;push_cast [iO,tN,hh2,hk4]))|((refine plc [] (r3) ?_ ?_;push_cast [iO,tN,hh2,hk4];rintro r os ⟨rfl,rfl⟩;push_cast [iO,tN,hh2,hk4]))|((refine plc [] (r4) ?_ ?_;push_cast [iO,tN,hh2,hk4];rintro r os ⟨rfl,rfl⟩;push_cast [iO,tN,hh2,hk4]))|((refine plc [] (hno) ?_ ?_;push_cast [iO,tN,hh2,hk4];rintro r os ⟨rfl,rfl⟩;push_cast [iO,tN,hh2,hk4]))|((first|refine pC ?_|refine pQC ?_|refine pU ?_);push_cast [iO,tN,hh2,hk4])|(refine pif (fun h=>?_) (fun h=>?_)<;>first|exact pN h|push_cast [iO,tN,hh2,hk4]))
    (refine retK_of [] ?_;push_cast [iO,tN])
theorem baseL_len (l:List Dev) (d:Dev):(baseL l d).length≤7:=by
 unfold baseL
 simp only
 have l1:=refA_len [] ⟨#[68,69,86,80,65,84,72]⟩ (placeM l d.index)
 generalize refA [] ⟨#[68,69,86,80,65,84,72]⟩ (placeM l d.index)=p1 at l1 ⊢
 have l2:=refA_len p1 ⟨#[83,85,66,83,89,83,84,69,77]⟩ d.subsystem
 generalize refA p1 ⟨#[83,85,66,83,89,83,84,69,77]⟩ d.subsystem=p2 at l2 ⊢
 have l3:=refA_len p2 ⟨#[68,82,73,86,69,82]⟩ d.driver
 generalize refA p2 ⟨#[68,82,73,86,69,82]⟩ d.driver=p3 at l3 ⊢
 have l4:=refA_len p3 ⟨#[77,79,68,65,76,73,65,83]⟩ d.alias_
 generalize refA p3 ⟨#[77,79,68,65,76,73,65,83]⟩ d.alias_=p4 at l4 ⊢
 have l5:=refA_len p4 ⟨#[68,69,86,78,65,77,69]⟩ (nodeM d)
 generalize refA p4 ⟨#[68,69,86,78,65,77,69]⟩ (nodeM d)=p5 at l5 ⊢
 have l6:=refA_len p5 ⟨#[78,85,77,66,69,82]⟩ (digN d.number.toNat)
 generalize refA p5 ⟨#[78,85,77,66,69,82]⟩ (digN d.number.toNat)=p6 at l6 ⊢
 have l7:=refA_len p6 ⟨#[73,78,84,69,82,70,65,67,69]⟩ d.original
 have l8:=refA_len p4 ⟨#[73,78,84,69,82,70,65,67,69]⟩ d.original
 simp only [List.length_nil] at l1
 split<;>split<;>omega
theorem baseL_fit (l:List Dev) {d:Dev} (hk:d.ok) (hp:Fit (placeM l d.index)) (hn:d.number≤9):FitV (baseL l d):=by
 have h4:=(((FitV.nil.set (n:=⟨#[68,69,86,80,65,84,72]⟩) hp).set (n:=⟨#[83,85,66,83,89,83,84,69,77]⟩) hk.subsystem).set (n:=⟨#[68,82,73,86,69,82]⟩) hk.driver).set (n:=⟨#[77,79,68,65,76,73,65,83]⟩) hk.alias_
 have hno:Fit (nodeM d):=by
  have ho:=hk.orig
  have:(nodeM d).size≤1048576:=by
   unfold nodeM
   split
   ·rw [nodeS_fit];exact ho
   ·decide
  exact Nat.le_trans this (by decide)
 have hdg:Fit (digN d.number.toNat):=by
  have:d.number.toNat < 10:=by omega
  generalize d.number.toNat=i at this ⊢
  have h:∀ i:Nat,i < 10 → (digN i).size≤10:=by decide +kernel
  exact Nat.le_trans (h i this) (by decide)
 unfold baseL
 simp only
 split<;>split
 ·exact ((h4.set hno).set hdg).set hk.original
 ·exact h4.set hk.original
 ·exact (h4.set hno).set hdg
 ·exact h4
end Go.Proofs.YthconflkbeipoaaGreatDoor
