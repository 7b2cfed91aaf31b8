/- What the program computes, and the plain laws of it, part 29. -/
import Derived.Lib.ItoaNum
import Derived.ProofKit
import Derived.OpenShut
import Derived.ShutString
import Derived.ChangeOld
import Derived.Deep.Slices
import Derived.Deep.Fields
import Derived.Shelf.Vars
import Derived.Test.YtgijigkfmbiifaaGreatDoorR27
import Derived.Test.YtgijigkfmbiifaaGreatDoorR28
namespace Go.Proofs.YtgijigkfmbiifaaGreatDoor
open Go.RowKit
open IntWalk renaming iteOmega → iO, toNatUp → tN
set_option linter.unusedVariables false
set_option linter.unusedSimpArgs false
instance decMem (x:ByteArray) (l:List ByteArray):Decidable (x ∈ l):=decidable_of_iff (inM x l=true) inM_iff
def kNic:ByteArray:=⟨#[110,105,99]⟩
def kCore:ByteArray:=⟨#[99,111,114,101]⟩
def kExtra:ByteArray:=⟨#[101,120,116,114,97]⟩
def kHid:ByteArray:=⟨#[104,105,100]⟩
def kRing:ByteArray:=⟨#[114,105,110,103]⟩
def kM:List Mod:=[⟨kNic,[],[kCore],[],[],false⟩,⟨kCore,[],[],[],[kExtra],false⟩,⟨kExtra,[],[],[kHid],[],false⟩,⟨kHid,[],[],[],[],false⟩,⟨kRing,[],[kRing],[],[],false⟩]
theorem reach_sub {M:List Mod} {n:ByteArray} (S:List ByteArray) (h0:∀ x ∈ needsOf M n,x ∈ S) (h1:∀ y ∈ S,∀ x ∈ needsOf M y,x ∈ S):∀ {x:ByteArray},Reach M n x → x ∈ S:=by
 intro x h
 induction h with
 | one h=>exact h0 _ h
 | more _ h ih=>exact h1 _ ih _ h
theorem k_nic (x:ByteArray):Reach kM kNic x ↔ x=kCore:=by
 refine ⟨fun h=>by simpa using reach_sub [kCore] (by decide +kernel) (by decide +kernel) h,?_⟩
 rintro rfl
 exact .one (by decide +kernel)
theorem k_none {n:ByteArray} (hn:needsOf kM n=[]) (x:ByteArray):¬ Reach kM n x:=fun h=>by simpa using reach_sub [] (by rw [hn];simp) (by simp) h
theorem k_h {n:ByteArray} (hn:needsOf kM n=[]) (x:ByteArray):x ∈ hardL kM n ↔ x=n:=by
 rw [(hard_spec kM n).2.1]
 exact ⟨fun h=>h.resolve_right (k_none hn x),.inl⟩
theorem k_hn (x:ByteArray):x ∈ hardL kM kNic ↔ x=kNic∨x=kCore:=by rw [(hard_spec kM kNic).2.1,k_nic]
theorem k_why0 {n:ByteArray} (hn:needsOf kM n=[]) (hm:¬ modOf kM n=none) (hf:((modOf kM n).getD noMod).fails=false):whyV kM [] n=0:=by
 unfold whyV
 rw [if_neg,if_neg,if_neg]
 ·rintro ⟨x,hx,h⟩;rw [k_h hn] at hx;subst hx;rw [hf] at h;simp at h
 ·rintro ⟨x,hx,h⟩;rw [k_h hn] at hx;subst hx;exact k_none hn _ h
 ·rintro ⟨x,hx,h⟩;rw [k_h hn] at hx;subst hx;exact hm h
theorem k_whyNic:whyV kM [] kNic=0:=by
 unfold whyV
 rw [if_neg,if_neg,if_neg]
 ·rintro ⟨x,hx,h⟩;rw [k_hn] at hx;rcases hx with rfl|rfl<;>(refine absurd h ?_;decide +kernel)
 ·rintro ⟨x,hx,h⟩
  rw [k_hn] at hx
  rcases hx with rfl|rfl
  ·rw [k_nic] at h;revert h;decide +kernel
  ·exact k_none (by decide +kernel) _ h
 ·rintro ⟨x,hx,h⟩;rw [k_hn] at hx;rcases hx with rfl|rfl<;>revert h<;>decide +kernel
theorem k_ring (x:ByteArray):Reach kM kRing x ↔ x=kRing:=by
 refine ⟨fun h=>by simpa using reach_sub [kRing] (by decide +kernel) (by decide +kernel) h,?_⟩
 rintro rfl
 exact .one (by decide +kernel)
theorem k_whyRing:whyV kM [] kRing=191:=by
 have hh:∀ x,x ∈ hardL kM kRing ↔ x=kRing:=fun x=>by rw [(hard_spec kM kRing).2.1,k_ring];simp
 unfold whyV
 rw [if_neg,if_pos]
 ·exact ⟨kRing,(hh _).2 rfl,(k_ring _).2 rfl⟩
 ·rintro ⟨x,hx,h⟩;rw [hh] at hx;subst hx;revert h;decide +kernel
def kAll:List ByteArray:=[kCore,kExtra,kHid,kNic]
theorem k_clos:closL kM [] [kNic]=kAll:=by
 refine listOf_eq (by simp only [asc,kAll];decide +kernel) fun x=>⟨fun h=>?_,fun h=>?_⟩
 ·have c0:whyV kM [] kNic=0:=k_whyNic
  have hc:Cl kM [] [kNic] kCore:=.base (by simp) c0 ((k_hn _).2 (.inr rfl))
  have he:Cl kM [] [kNic] kExtra:=.step hc (s:=kExtra) (by decide +kernel) (k_why0 (by decide +kernel) (by decide +kernel) (by decide +kernel)) ((k_h (by decide +kernel) _).2 rfl)
  have hh:Cl kM [] [kNic] kHid:=.step he (s:=kHid) (by decide +kernel) (k_why0 (by decide +kernel) (by decide +kernel) (by decide +kernel)) ((k_h (by decide +kernel) _).2 rfl)
  simp only [kAll,List.mem_cons,List.not_mem_nil,or_false] at h
  rcases h with rfl|rfl|rfl|rfl
  ·exact hc
  ·exact he
  ·exact hh
  ·exact .base (by simp) c0 ((k_hn _).2 (.inl rfl))
 ·induction h with
  | base h1 _ h3 =>
   simp only [List.mem_singleton] at h1
   subst h1
   rw [k_hn] at h3
   rcases h3 with rfl|rfl<;>decide +kernel
  | @step m s x _ h1 _ h3 ih =>
   have hs:∀ m ∈ kAll,∀ s ∈ softOf kM m,s=kExtra∨s=kHid:=by decide +kernel
   rcases hs _ ih _ h1 with rfl|rfl
   ·rw [k_h (by decide +kernel)] at h3;subst h3;decide +kernel
   ·rw [k_h (by decide +kernel)] at h3;subst h3;decide +kernel
theorem rest_asc {l:List ByteArray} (h:asc l):restM [] l=l:=asc_ext (restM_spec [] l).1 h fun x=>by rw [(restM_spec [] l).2.1];simp
theorem k_ord:ordM kM [] kAll=[kCore,kHid,kExtra,kNic]:=by decide +kernel
theorem k_asc:asc kAll:=by simp only [asc,kAll];decide +kernel
def leC:E → E → Prop
 | .full sz l,.sl sz' l'=>sz=sz'∧leRows l l'
 | .v x,.v y=>x=y
 | _,_=>False
def leCs:List E → List E → Prop
 | [],[]=>True
 | a :: r,b :: r'=>leC a b∧leCs r r'
 | _,_=>False
attribute [push_cast] leC leCs
theorem leC_ok {w:World} {Γ:G} {a b:E} {y:Value} (h:leC a b) (hr:RE w Γ a y):RE w Γ b y:=by
 unfold leC at h
 split at h
 ·obtain ⟨rfl,h⟩:=h
  obtain ⟨h2,_⟩:=hr
  obtain ⟨A,c,xs,h3,h4,h5,h6,h7⟩:=rd_sl.1 h2
  show RD w Γ.I (.sl _ _) _
  rw [rd_sl,h3]
  have hl:=leRows_length h
  exact ⟨A,c,xs,by rw [hl],by omega,by rw [← hl];exact h5,leRows_mem h h6,leRows_ok h h7⟩
 ·subst h;exact hr
 ·exact h.elim
theorem leCs_ok {w:World} {Γ:G}:∀ {a b:List E} {ys:List Value},leCs a b → All2 (RE w Γ) a ys → All2 (RE w Γ) b ys
 | [],[],_,_,h=>h
 | _ :: _,_ :: _,[],_,h=>h.elim
 | _ :: _,_ :: _,_ :: _,h,hr=>⟨leC_ok h.1 hr.1,leCs_ok h.2 hr.2⟩
 | [],_ :: _,_,h,_=>h.elim
 | _ :: _,[],_,h,_=>h.elim
theorem weak_boxrows {N p:Nat} {s:S} (k:Nat) {ty:TypeId} {cs:List E} (cs':List E) (hk:s.o[k]? = some (.box ty cs)) (h:leCs cs cs'):Weak N p s ⟨s.t,setO s.o k (.box ty cs')⟩:=by
 intro Γ a w hA
 have hm:=hA.inv.m
 have hkl:k < s.o.length:=(List.getElem?_eq_some_iff.1 hk).1
 refine ⟨Γ,⟨⟨hA.inv.size,hA.inv.defers,hA.inv.t,⟨by simp [setO,hm.n],fun j o ho=>?_,hm.sep,hm.off,hm.lt,hm.pin⟩⟩,hA.le⟩,Grow.refl _ _ _⟩
 simp only [setO] at ho
 by_cases e:k=j
 ·subst e
  rw [List.getElem?_set_self hkl] at ho
  cases ho
  obtain ⟨g1,xs,g2,g3,g4⟩:=hm.ob k _ hk
  exact ⟨g1,xs,g2,leCs_ok h g3,g4⟩
 ·rw [List.getElem?_set_ne e] at ho
  exact hm.ob j o ho
theorem weak_aggrows {N p:Nat} {s:S} (i:Nat) {cs:List E} (cs':List E) (hi:s.get i=some (.agg cs)) (h:leCs cs cs'):Weak N p s ⟨(i,.agg cs') :: s.t,s.o⟩:=by
 intro Γ a w hA
 refine ⟨Γ,⟨⟨hA.inv.size,hA.inv.defers,fun j q hq=>?_,hA.inv.m⟩,hA.le⟩,Grow.refl _ _ _⟩
 simp only [S.get,look] at hq
 split at hq
 ·rename_i e
  subst e
  cases hq
  obtain ⟨h1,xs,h2,h3⟩:=hA.inv.t j _ hi
  exact ⟨h1,xs,h2,leCs_ok h h3⟩
 ·exact hA.inv.t j q hq
end Go.Proofs.YtgijigkfmbiifaaGreatDoor
namespace Go.Proofs.YtgijigkfmbiifaaGreatDoor
attribute [local irreducible] PL QL PWPr PCalls Weak RetK Kontr PA
open Go.RowKit
open IntWalk renaming iteOmega → iO, toNatUp → tN
set_option linter.unusedVariables false
set_option linter.unusedSimpArgs false
set_option maxRecDepth 20000
def kC:Cfg:=⟨kM,[],[],[],[]⟩
theorem k_mod {m:Mod} (h:m ∈ kM):m.needs.length≤1∧m.pre.length≤1∧m.post.length≤1∧m.name≠⟨#[]⟩∧(∀ x ∈ m.needs,x.size≤10)∧m.name.size≤10:=by
 have:∀ m ∈ kM,m.needs.length≤1∧m.pre.length≤1∧m.post.length≤1∧m.name≠⟨#[]⟩∧(∀ x ∈ m.needs,x.size≤10)∧m.name.size≤10:=by decide +kernel
 exact this m h
theorem k_ok:CfgOk2 kC:=by
 have hz:(10:Nat)≤maxLen:=by unfold maxLen;omega
 have hs:∀ n,∀ x ∈ softOf kM n,x.size≤10:=by
  intro n x hx
  unfold softOf at hx
  cases hm:modOf kM n with
  | none=>rw [hm] at hx;simp [noMod] at hx
  | some m =>
   rw [hm] at hx
   have:∀ m ∈ kM,∀ x ∈ m.pre++m.post,x.size≤10:=by decide +kernel
   exact this m (mod_mem hm).1 x hx
 have hl:∀ n,(softOf kM n).length≤200:=by
  intro n
  unfold softOf
  cases hm:modOf kM n with
  | none=>simp [noMod]
  | some m=>have:=k_mod (mod_mem hm).1;simp only [Option.getD_some,List.length_append];omega
 refine ⟨⟨⟨by decide,fun m hm=>by have:=k_mod hm;omega,fun m hm=>by have:=k_mod hm;omega,fun m hm=>by have:=k_mod hm;omega,by decide +kernel,fun m hm=>(k_mod hm).2.2.2.1⟩,⟨fun x hx=>?_⟩,by simp [kC]⟩,fun n x hx=>Nat.le_trans (hs n x hx) hz,hl⟩
 obtain ⟨m,hm,hx⟩:=List.mem_flatMap.1 hx
 exact Nat.le_trans ((k_mod hm).2.2.2.2.1 x hx) hz
set_option maxHeartbeats 4000000 in
theorem known_pure:PCalls Tryz.prog 9 [] [] fun r os=>r = .c (.v (.bool true))∧os=[]:=by
 have hz:(10:Nat)≤maxLen:=by unfold maxLen;omega
 have ho:=dorder_pure kC kAll [] k_ok (by decide) (by decide)
 have h1:=closure_pure kC [kNic] k_ok (by decide) (fun x hx=>by simp at hx;subst hx;exact Nat.le_trans (by decide) hz) (fun x hx=>by obtain ⟨m,hm,rfl⟩:=List.mem_map.1 hx;exact Nat.le_trans (k_mod hm).2.2.2.2.2 hz)
 rw [show closL kC.modules kC.off [kNic]=kAll from k_clos] at h1
 rw [rest_asc k_asc,show ordM kC.modules [] kAll=[kCore,kHid,kExtra,kNic] from k_ord] at ho
 have h3:=dWhy_pure kC kRing k_ok.toCfgOk (Nat.le_trans (by decide) hz)
 rw [show whyV kC.modules kC.off kRing=191 from k_whyRing] at h3
 have h4:=dCan_pure kC kNic k_ok.toCfgOk (Nat.le_trans (by decide) hz)
 rw [show whyV kC.modules kC.off kNic=0 from k_whyNic] at h4
 have s1:=same_pure kAll kAll (by decide) (by decide)
 have s2:=same_pure [kCore,kHid,kExtra,kNic] [kCore,kHid,kExtra,kNic] (by decide) (by decide)
 simp only [kAll,kNic,kCore,kExtra,kHid,kRing,List.map_cons,List.map_nil,strD,List.length_cons,List.length_nil,decide_true,Nat.reduceAdd,decide_eq_true_eq] at h1 ho h3 h4 s1 s2
 refine pcalls_of Tryz.func9 rfl (by simp [Tryz.ntmps9]) ?_
 rw [Tryz.ntmps9,Tryz.results9]
 push_cast [iO,tN]
 repeat' (first|((first|refine pG ?_|refine pQ ?_|refine pU ?_);push_cast [iO,tN])|(refine pif (fun h=>?_) (fun h=>?_)<;>first|exact pN h|push_cast [iO,tN]))
 refine pl_weak (weak_boxrows 0 (kC.e.take 1++List.replicate 4 (.v (.slice none 0 0))) rfl (by simp [kC,kM,kNic,kCore,kExtra,kHid,kRing,Cfg.e,Cfg.d,Mod.d,D.e,leCs,leC,leRows,leDs,leD,isEmp,strD])) ?_
 refine pl_weak (weak_aggrows 14 (kC.e.take 1++List.replicate 4 (.v (.slice none 0 0))) rfl (by simp [kC,kM,kNic,kCore,kExtra,kHid,kRing,Cfg.e,Cfg.d,Mod.d,D.e,leCs,leC,leRows,leDs,leD,isEmp,strD])) ?_
 have hb:kC.blocked=[]:=rfl
 have hof:kC.off=[]:=rfl
 have hk:kC.keep=[]:=rfl
 have hx:kC.extra=[]:=rfl
 refine pl_weak (s':=⟨[(15,.c (.full 1 [[.v (.string ⟨#[110,105,99]⟩)]])),(14,.agg kC.e),(1,.c (.ptr 0 0)),(0,.c (.v (.bool false)))],[.box 30 kC.e]⟩) (by (simp only [Cfg.e,Cfg.d,List.map_cons,List.map_nil,D.e,List.take_succ_cons,List.take_zero,List.replicate,List.cons_append,List.nil_append,hb,hof,hk,hx]);(refine weak_fg ?_;push_cast [iO,tN])) ?_
 generalize kC=c at *
 refine pl_of_pops ?_
 push_cast [iO,tN]
 repeat' (first |  (refine plc [] (h1) ?_ ?_;push_cast [iO,tN];rintro r os ⟨rfl,rfl⟩;push_cast [iO,tN])|(refine pl_call2 true [] rfl rfl (by kernel_rfl) (s1) ?_ ?_ ?_;push_cast [iO,tN];(intro _ r os;rintro ⟨rfl,rfl⟩;push_cast [iO,tN]);rintro r os ⟨rfl,rfl⟩;refine pl_of_pops ?_;push_cast [iO,tN])|(refine pl_call2 true [] rfl rfl (by kernel_rfl) (ho) ?_ ?_ ?_;push_cast [iO,tN];(intro _ r os;rintro ⟨rfl,rfl⟩;push_cast [iO,tN]);rintro r os ⟨rfl,rfl⟩;refine pl_of_pops ?_;push_cast [iO,tN])|(refine pl_call2 true [] rfl rfl (by kernel_rfl) (s2) ?_ ?_ ?_;push_cast [iO,tN];(intro _ r os;rintro ⟨rfl,rfl⟩;push_cast [iO,tN]);rintro r os ⟨rfl,rfl⟩;refine pl_of_pops ?_;push_cast [iO,tN])|(refine plc [] (h3) ?_ ?_;push_cast [iO,tN];rintro r os ⟨rfl,rfl⟩;push_cast [iO,tN])|(refine plc [] (h4) ?_ ?_;push_cast [iO,tN];rintro r os ⟨rfl,rfl⟩;push_cast [iO,tN])  | ((first|refine pG ?_|refine pQ ?_|refine pU ?_);push_cast [iO,tN])|(refine pif (fun h=>?_) (fun h=>?_)<;>first|exact pN h|push_cast [iO,tN]))
 (refine retK_of [] ?_;push_cast [iO,tN])
end Go.Proofs.YtgijigkfmbiifaaGreatDoor
namespace Go.Proofs.YtgijigkfmbiifaaGreatDoor
open Go.RowKit
open IntWalk renaming iteOmega → iO, toNatUp → tN
set_option linter.unusedVariables false
set_option linter.unusedSimpArgs false
def isPt (P:Program) (t:TypeId):Bool:=match P.underlying t with
 | some (.pointer _)=>true
 | _=>false
theorem isPt_ok {P:Program} {t:TypeId} (h:isPt P t=true):∃ e,P.underlying t=some (.pointer e):=by
 unfold isPt at h
 split at h
 ·exact ⟨_,by assumption⟩
 ·cases h
theorem run_ptrq {P:Program} {t:TypeId} (h:isPt P t=true) (w:World) (A:Option Addr) :
  (binOp .eql t (.pointer A) (.pointer none)).run P w = .ok (.bool A.isNone) w∧(binOp .neq t (.pointer A) (.pointer none)).run P w = .ok (.bool (!A.isNone)) w:=by
 obtain ⟨e,he⟩:=isPt_ok h
 have h1:∀ d,(Op.equalIn (d+1) t (.pointer A) (.pointer none)).run P w = .ok A.isNone w:=by intro d;cases A<;>simp [Op.equalIn,run_underlying he]
 exact run_binOp_eq t w (by simp) (by simp) (h1 9999)
section
variable {P:Program} {N p:Nat} {ops:Array Oper} {o:Oper} {rest:List Oper} {s:S} {K:S → Prop}
theorem pl_ptreq {t t':TypeId} {x z:Operand} {k off:Nat} (ho:o.op = .binOp .eql t x z t') (hg:gd ops s o.guard=some true) (hx:s.ev x=some (.c (.ptr k off))) (hz:s.ev z=some (.c (.v (.pointer none)))) (ht:isPt P t=true) (hd:dstOk N o.dst)
  (hK:PL P N p ops rest (s.put o.dst (.c (.v (.bool false)))) K):PL P N p ops (o :: rest) s K:=by
 refine pl_same (q:=.c (.v (.bool false))) hg (fun Γ a w hI=>?_) hd hK
 obtain ⟨_,hx1⟩:=S.ev_ok hx hI
 obtain ⟨hz1,_⟩:=S.ev_ok hz hI
 exact ⟨_,⟨rfl,rfl⟩,fun w' _=>by simp [execOp,ho,hx1,hz1,guard_scalar,(run_ptrq ht w' (some _)).1]⟩
end
section
variable {P:Program} {N p:Nat} {s:S}
theorem pwp_drawn_exn {rd:Option Nat} {Q:Exit → S → Prop} {id:Nat} {l:List Oper} {α:Type} (B:Nat) (ex:List Nat) (f:α → List (Nat × PV)) (g:α → List (Nat × Ob)) (gn:α → List Ob) (Φ:α → Prop) (x0:α) {t0:List (Nat × PV)} (ht:cutT B ex ((f x0).map Prod.fst) s.t=t0) (hmp:(P.follows .mixedOrders && plains l)=true)
  (h:PA P N p l.toArray l.length (Array.replicate l.length false) s (fun s'=>∃ x,Φ x∧Weak N p s' ⟨f x++t0,setM s.o (g x)++gn x⟩)) (hq:∀ x,Φ x → Q .normal ⟨f x++t0,setM s.o (g x)++gn x⟩):PWPr rd P N p (.region id l.toArray true) Q s:=fun z Γ a w hA hD=>by
 simp only [Bool.and_eq_true] at hmp
 refine wpIn_region_any hmp.1 (any_rd (by simpa using hmp.2) ?_)
 have hX:Ext No w { w with drawn:=w.drawn+1 }:=(Ext.refl No w).drew
 refine h Γ a _ _ ⟨hA.inv.same (Same.of_ext hX),hA.le⟩ fun s' Γ' a' w' hk hA' hg hd=>?_
 obtain ⟨x,hx,hw⟩:=hk
 obtain ⟨Γ2,hA2,hg2⟩:=hw Γ' a' w' hA'
 exact ⟨_,Γ2,hq x hx,hA2,(ext_grow hX).trans (hg.trans hg2),hD.grow ((ext_grow (p:=p) hX).trans (hg.trans hg2)) hd⟩
end
end Go.Proofs.YtgijigkfmbiifaaGreatDoor
namespace Go.Proofs.YtgijigkfmbiifaaGreatDoor
attribute [local irreducible] PL QL PWPr PCalls Weak RetK Kontr PA PCallsG
open Go.RowKit
open IntWalk renaming iteOmega → iO, toNatUp → tN
set_option linter.unusedVariables false
set_option linter.unusedSimpArgs false
set_option maxRecDepth 20000
set_option maxHeartbeats 8000000 in
theorem loads_pure (L:List Int) (hL:∀ x ∈ L,-9223372036854775808≤x∧x≤9223372036854775807) (hl:L.length≤9223372036854775807) :
  PCalls Tryz.prog 3 [.c (.sl 1 (L.map fun x=>[D.v (.int .i64 x)]))] [] fun r os=>r = .c (.v (.bool true))∧os=[]:=by
 have hz:(10:Nat)≤maxLen:=by unfold maxLen;omega
 refine pcalls_of Tryz.func3 rfl (by simp [Tryz.ntmps3]) ?_
 rw [Tryz.ntmps3,Tryz.results3]
 push_cast [iO,tN]
 have cB:CutB 12 []:=trivial
 repeat' (first|((first|refine pC ?_|refine pQC ?_|refine pU ?_);push_cast [iO,tN])|(refine pif (fun h=>?_) (fun h=>?_)<;>first|exact pN h|push_cast [iO,tN]))
 (refine plc [0] (cfgN_pure L hL hl) ?_ ?_;push_cast [iO,tN];rintro r os ⟨c,k1,⟨⟨hc,hw⟩,hk1⟩,rfl,rfl⟩;push_cast [iO,tN])
 have hok:=hc.ok
 have hnz:∀ x ∈ c.modules.map Mod.name,x.size≤maxLen:=fun x hx=>by obtain ⟨m,hm,rfl⟩:=List.mem_map.1 hx;exact Nat.le_trans (hc.mods m hm).namez hz
 have hnm:=names_pure L k1 (by omega) hL hl
 repeat' (first |  (refine hidR 3 ?_)  | ((first|refine pC ?_|refine pQC ?_|refine pU ?_);push_cast [iO,tN])|(refine pif (fun h=>?_) (fun h=>?_)<;>first|exact pN h|push_cast [iO,tN]))
 refine unhid ?_
 (refine pwp_cut 12 [] ?_;apply pwp_drawn_exn (α:=List ByteArray × Nat) 12 [] (fun x=>[(5,.c (.own 3 ((closL c.modules c.off x.1).length)))]) (fun x=>[(0,tape L x.2)]) (fun x=>[.arr 9 1 (x.1.map strD),.arr 9 1 ((closL c.modules c.off x.1).map strD)]) (fun x=>x.1.length≤5∧x.2≤110) (([],0));(focus ((try push_cast [iO,tN]);rfl));(focus kernel_rfl);(focus (simp only [List.length_cons,List.length_nil,Nat.reduceAdd];(repeat' first|((refine plc [0] (hnm) ?_ ?_;push_cast [iO,tN];rintro r os ⟨xs,k2,⟨hx1,hx2,hx3⟩,rfl,rfl⟩;push_cast [iO,tN]))|((refine pl_call2 true [] rfl rfl (by kernel_rfl) ((closure_pure c xs hok (by omega) (fun x hx=>Nat.le_trans (hx3 x hx) hz) hnz)) ?_ ?_ ?_;push_cast [iO,tN];(intro _ r os;rintro ⟨rfl,rfl⟩;push_cast [iO,tN]);rintro r os ⟨rfl,rfl⟩;refine pl_of_pops ?_;push_cast [iO,tN]))|((first|refine pah 1 ?_|refine pah 4 ?_);push_cast [iO,tN])|(refine pad ?_;try push_cast [iO,tN])|((first|refine pas [0] ?_|refine pas [2] ?_|refine pas [3] ?_);push_cast [iO,tN])|((first|refine pas [0,2] ?_|refine pas [0,3] ?_|refine pas [2,3] ?_);push_cast [iO,tN];refine ⟨?_,?_⟩)|((first|refine pas [0,2,3] ?_);push_cast [iO,tN];refine ⟨?_,?_,?_⟩));all_goals (exact ⟨(xs,k2),⟨hx1,by omega⟩,by (refine weak_fg ?_;push_cast [iO,tN])⟩))))
 rintro ⟨xs,k2⟩ ⟨hx1,hk2⟩
 simp only at hx1 hk2
 have hML:c.modules.length≤10:=hc.len
 have hAl:(closL c.modules c.off xs).length≤10:=by have:=(clos_spec c.modules c.off xs).2.2;omega
 obtain ⟨hol,hom,hLA⟩:=clos_loads c.modules c.off xs (fun m hm=>by have:=(hc.mods m hm).needs;omega)
 obtain ⟨A,hA⟩:∃ A,closL c.modules c.off xs=A:=⟨_,rfl⟩
 rw [hA] at hAl hol hom hLA ⊢
 have hord:=dorder_pure c A [] hok (by omega) (by simp)
 obtain ⟨o,ho⟩:∃ o,ordM c.modules [] (restM [] A)=o:=⟨_,rfl⟩
 rw [ho] at hol hom hLA hord
 have hnw:=knewW hw hc.nodup (by omega)
 have hsm:=same_pure o o (by omega) (by omega)
 rw [decide_eq_true rfl] at hsm
 have hld:=kloaded_pure (kerE c.modules o) (by show o.length≤_;omega)
 have hol2:(o.length:Int)=(A.length:Int):=by omega
 push_cast [iO,tN]
 repeat' (first|((refine pl_call2 true [] rfl rfl (by kernel_rfl) (hord) ?_ ?_ ?_;push_cast [iO,tN,hol2];(intro _ r os;rintro ⟨rfl,rfl⟩;push_cast [iO,tN,hol2]);rintro r os ⟨rfl,rfl⟩;refine pl_of_pops ?_;push_cast [iO,tN,hol2]))|((refine plc [] (hnw) ?_ ?_;push_cast [iO,tN,hol2];rintro r os ⟨rfl,rfl⟩;push_cast [iO,tN,hol2]))|((refine plc [] (known_pure) ?_ ?_;push_cast [iO,tN,hol2];rintro r os ⟨rfl,rfl⟩;push_cast [iO,tN,hol2]))|(refine pl_ptreq rfl rfl rfl rfl (by kernel_rfl) (by simp [dstOk]) (pl_of_pops ?_);push_cast [iO,tN,hol2])|((first|refine pC ?_|refine pQC ?_|refine pU ?_);push_cast [iO,tN,hol2])|(refine pif (fun h=>?_) (fun h=>?_)<;>first|exact pN h|push_cast [iO,tN,hol2]))
 (apply pwp_loop3 (α:=Nat) 12 [] (fun i=>[(9,.c (.v (.int .i64 i)))]) (fun i=>[(5,kerB 6 7 (kerE c.modules (o.take i))),(6,kerL (kerE c.modules (o.take i))),(7,kerV (kerE c.modules (o.take i)))]) (fun i=>i≤o.length) (fun i=>o.length - i) (0);(focus ((try push_cast [iO,tN]);rfl));(focus exact (Nat.zero_le _));(focus ((refine weak_fg ?_;try push_cast [iO,tN]);(try (rfl)))))
 intro i hi
 by_cases hlt:i < o.length
 ·have hlt':(i:Int) < (o.length:Int):=by omega
  obtain ⟨m,hLd⟩:=hLA.get i hlt
  rw [List.nil_append] at hLd
  have hd:=kdoE_pure c.modules (o.take i) (o.getD i default) m hLd (by omega) (by rw [List.length_take];omega)
  have htk:o.take i++[o.getD i default]=o.take (i+1):=by rw [getD_lt _ hlt,List.take_succ_eq_append_getElem hlt]
  rw [htk] at hd
  have hin:=in_pure A (o.getD i default) (by omega)
  rw [show inM (o.getD i default) A=true from inM_iff.2 (hom _ (by rw [getD_lt _ hlt];exact List.getElem_mem _))] at hin
  obtain ⟨s,hs⟩:∃ s,o.getD i default=s:=⟨_,rfl⟩
  rw [hs] at hd hin
  push_cast [iO,tN]
  repeat' (first|((refine plcG 1 [5,6,7] (hd) ?_ ?_;push_cast [iO,tN,hlt',hs];rintro r os ⟨rfl,rfl⟩;push_cast [iO,tN,hlt',hs]))|((refine pl_call2 true [] rfl rfl (by kernel_rfl) (hin) ?_ ?_ ?_;push_cast [iO,tN,hlt',hs];(intro _ r os;rintro ⟨rfl,rfl⟩;push_cast [iO,tN,hlt',hs]);rintro r os ⟨rfl,rfl⟩;refine pl_of_pops ?_;push_cast [iO,tN,hlt',hs]))|((first|refine pC ?_|refine pQC ?_|refine pU ?_);push_cast [iO,tN,hlt',hs])|(refine pif (fun h=>?_) (fun h=>?_)<;>first|exact pN h|push_cast [iO,tN,hlt',hs]))
  exact ⟨i+1,by omega,by (refine weak_fg ?_;push_cast [iO,tN]),by omega⟩
 ·have hlt':¬ (i:Int) < (o.length:Int):=by omega
  rw [List.take_of_length_le (by omega)]
  push_cast [iO,tN]
  repeat' (first|((refine plc [5,6,7] (hld) ?_ ?_;push_cast [iO,tN,hlt'];rintro r os ⟨rfl,rfl⟩;push_cast [iO,tN,hlt']))|((refine pl_call2 true [] rfl rfl (by kernel_rfl) (hsm) ?_ ?_ ?_;push_cast [iO,tN,hlt'];(intro _ r os;rintro ⟨rfl,rfl⟩;push_cast [iO,tN,hlt']);rintro r os ⟨rfl,rfl⟩;refine pl_of_pops ?_;push_cast [iO,tN,hlt']))|((first|refine pC ?_|refine pQC ?_|refine pU ?_);push_cast [iO,tN,hlt'])|(refine pif (fun h=>?_) (fun h=>?_)<;>first|exact pN h|push_cast [iO,tN,hlt']))
  (refine retK_of [] ?_;push_cast [iO,tN])
end Go.Proofs.YtgijigkfmbiifaaGreatDoor
namespace Go.Proofs.YtgijigkfmbiifaaGreatDoor
open Go.ChangeShapes Go.WideShapes Go.ChangeAt Go.RowKit
open Go.ChangeMaps (open_string shut_string)
set_option linter.unusedVariables false
set_option linter.unusedSimpArgs false
theorem int_bd {n:Int} (h:(Lit.int .i64 n).wf=true) : -9223372036854775808≤n∧n≤9223372036854775807:=by
 simpa [Lit.wf,IntKind.min,IntKind.max,IntKind.signed,IntKind.bits] using h
theorem trod_rows {H:Type} {enc:TypeId × Value → H} {P:Program} {W:World} {t e:TypeId} {size fuel:Nat} {A:Option Addr} {n c:Nat} {x:DataW H × List MemPlace}
  (ht:P.underlying t=some (.slice e)) (hC:P.cellsOf e=size) (hp:0 < size) (h:DataW.trod enc P W 0 (fun _=>true) true fuel t [.slice A n c]=some x) :
  ∃ F:Nat → List Value,n≤c∧c≤maxLen∧(∀ i,i < n → (F i).length=size∧∃ m y,DataW.trod enc P W 0 (fun _=>true) true m e (F i)=some y) ∧
   Rd W (fun _=>True) size A n ((List.range n).flatMap F):=by
 rcases Go.Deep.open_slice ht h with ⟨hcs,_⟩|⟨a,len,cap,m,fu,D,Pl,hcs,_,hl,hm,hmm,_,hi⟩
 ·simp at hcs
  obtain ⟨rfl,rfl,rfl⟩:=hcs
  exact ⟨fun _=>[],Nat.le_refl _,by simp [maxLen],fun i hi=>absurd hi (by omega),by simpa using Rd.nil⟩
 ·simp at hcs
  obtain ⟨rfl,rfl,rfl⟩:=hcs
  simp only [if_true] at hmm
  subst hmm
  obtain ⟨F,hF⟩:=Go.Deep.choose_lt (n:=n) (p:=fun i (cs':List Value)=>W.cells? 0 (a.add (i * P.cellsOf e)) (P.cellsOf e)=some cs'∧DataW.trod enc P W 0 (fun _=>true) true fu e cs'=some (D i,Pl i))
   (fun i h=>hi i (by omega))
  have hlen:∀ i,i < n → (F i).length=size:=fun i h=>by
   have:=(World.cells?_some (hF i h).1).2.1
   rw [this,hC]
  have hflat:∀ k,k≤n → ((List.range k).flatMap F).length=k * size:=by
   intro k
   induction k with
   | zero=>intro _;simp
   | succ k ih =>
    intro hk
    rw [List.range_succ,List.flatMap_append,List.length_append,ih (by omega)]
    simp [hlen k (by omega),Nat.add_mul]
  refine ⟨F,hl,hm,fun i h=>⟨hlen i h,fu,_,(hF i h).2⟩,hflat n (Nat.le_refl _),fun hn=>?_⟩
  have hcell:∀ i,i < n → ∀ j,j < size → W.cell? ((a.add (i * size)).add j)=(F i)[j]?:=fun i h j hj=>by
   have h1:=(World.cells?_some (hF i h).1).2.2 j (by rw [hC];exact hj)
   rw [hC] at h1
   exact h1
  have hget:∀ k,k≤n → ∀ j,((List.range k).flatMap F)[j]? = if j < k * size then (F (j / size))[j % size]? else none:=by
   intro k
   induction k with
   | zero=>intro _ j;simp
   | succ k ih =>
    intro hk j
    rw [List.range_succ,List.flatMap_append]
    by_cases hj:j < k * size
    ·rw [List.getElem?_append_left (by rw [hflat k (by omega)];exact hj),ih (by omega),if_pos hj,if_pos (by rw [Nat.add_mul];omega)]
    ·rw [List.getElem?_append_right (by rw [hflat k (by omega)];omega),hflat k (by omega)]
     simp only [List.flatMap_cons,List.flatMap_nil,List.append_nil]
     by_cases hj2:j < (k+1) * size
     ·have hj3:j - k * size < size:=by rw [Nat.add_mul] at hj2;omega
      have e1:j / size=k:=by
       rw [show j=(j - k * size)+k * size by omega,Nat.add_mul_div_right _ _ hp,Nat.div_eq_of_lt hj3];omega
      have e2:j % size=j - k * size:=by
       conv=>lhs;rw [show j=(j - k * size)+k * size by omega]
       rw [Nat.add_mul_mod_self_right,Nat.mod_eq_of_lt hj3]
      rw [if_pos hj2,e1,e2]
     ·rw [if_neg hj2,List.getElem?_eq_none (by rw [hlen k (by omega)];rw [Nat.add_mul] at hj2;omega)]
  obtain ⟨b,off,spot⟩:=a
  have h0:=hcell 0 (by omega) 0 hp
  have hs:spot=none:=by
   have hx:(F 0)[0]? = some ((F 0)[0]'(by rw [hlen 0 (by omega)];exact hp)):=List.getElem?_eq_getElem _
   rw [hx] at h0
   simpa [Addr.add] using World.cell?_spot h0
  subst hs
  have h0b:b < W.heap.size:=by
   have hx:(F 0)[0]? = some ((F 0)[0]'(by rw [hlen 0 (by omega)];exact hp)):=List.getElem?_eq_getElem _
   rw [hx] at h0
   have:=World.block_lt_of_cell? _ _ h0
   simpa [Addr.add_lit] using this
  refine ⟨b,off,rfl,trivial,h0b,fun j u hu=>?_⟩
  rw [hget n (Nat.le_refl _)] at hu
  split at hu
  ·rename_i hj
   have hq:j / size < n:=Nat.div_lt_of_lt_mul (by rw [Nat.mul_comm];exact hj)
   have h1:=hcell (j / size) hq (j % size) (Nat.mod_lt _ hp)
   rw [Addr.add_lit,Addr.add_lit,Nat.add_assoc,Nat.mul_comm,Nat.div_add_mod] at h1
   rw [h1,hu]
  ·cases hu
end Go.Proofs.YtgijigkfmbiifaaGreatDoor
namespace Go.Proofs.YtgijigkfmbiifaaGreatDoor
open Go.ChangeShapes Go.WideShapes Go.ChangeAt Go.RowKit
set_option linter.unusedVariables false
set_option linter.unusedSimpArgs false
inductive Sh where
 | int (k:IntKind)
 | str
 | bool
 | sl (els:List Sh)
mutual
def TD:Sh → D → Prop
 | .int k,d=>∃ n,d = .v (.int k n)∧(Lit.int k n).wf=true
 | .str,d=>∃ s:ByteArray,d = .v (.string s)∧s.size≤maxLen
 | .bool,d=>∃ b,d = .v (.bool b)
 | .sl ss,d=>∃ rows,d = .sl ss.length rows∧rows.length≤maxLen∧∀ r ∈ rows,TR ss r
def TR:List Sh → List D → Prop
 | [],r=>r=[]
 | s :: ss,r=>∃ d r',r=d :: r'∧TD s d∧TR ss r'
end
theorem TR.append:∀ {a b:List Sh} {x y:List D},TR a x → TR b y → TR (a++b) (x++y)
 | [],b,x,y,h1,h2=>by rw [TR] at h1;subst h1;exact h2
 | s :: a,b,x,y,h1,h2=>by
  rw [TR] at h1
  obtain ⟨d,r',rfl,h3,h4⟩:=h1
  show TR (s :: (a++b)) (d :: (r'++y))
  rw [TR]
  exact ⟨d,r'++y,rfl,h3,h4.append h2⟩
theorem TR.len:∀ {a:List Sh} {x:List D},TR a x → x.length=a.length
 | [],x,h=>by rw [TR] at h;subst h;rfl
 | s :: a,x,h=>by
  rw [TR] at h
  obtain ⟨d,r',rfl,h3,h4⟩:=h
  simp [h4.len]
mutual
def shOf (P:Program):Nat → TypeId → Option (List Sh)
 | 0,_=>none
 | n+1,t=>match P.underlying t with
  | some (.int k)=>some [.int k]
  | some .string=>some [.str]
  | some .bool=>some [.bool]
  | some (.slice e)=>match shOf P n e with
   | some ss=>if 0 < ss.length∧P.cellsOf e=ss.length then some [.sl ss] else none
   | none=>none
  | some (.struct fs)=>match shFs P n fs.toList 0 with
   | some ss=>if P.cellsOf t=ss.length then some ss else none
   | none=>none
  | _=>none
def shFs (P:Program):Nat → List Field → Nat → Option (List Sh)
 | 0,_,_=>none
 | n+1,[],_=>some []
 | n+1,f :: fs,o=>match shOf P n f.type,shFs P n fs (o+P.cellsOf f.type) with
  | some ss,some rest=>if f.offset=o∧P.cellsOf f.type=ss.length then some (ss++rest) else none
  | _,_=>none
end
section
variable {H:Type} {enc:TypeId × Value → H} {P:Program} {W:World}
def Here (W:World) (b:Nat):Prop:=b < W.heap.size
theorem rd_here {sz n:Nat} {A:Option Addr} {xs:List Value} (h:Rd W (fun _=>True) sz A n xs):Rd W (Here W) sz A n xs :=
 ⟨h.1,fun hn=>by obtain ⟨b,o,h1,_,h2,h3⟩:=h.2 hn;exact ⟨b,o,h1,h2,h2,h3⟩⟩
mutual
theorem sh_ok:∀ (n:Nat) (t:TypeId) (ss:List Sh) (cs:List Value) (fuel:Nat) (y:DataW H × List MemPlace),shOf P n t=some ss → DataW.trod enc P W 0 (fun _=>true) true fuel t cs=some y →
  ∃ ds,TR ss ds∧All2 (RD W (Here W)) ds cs
 | 0,t,ss,cs,fuel,y,h,_=>by simp [shOf] at h
 | n+1,t,ss,cs,fuel,y,h,ht=>by
  rw [shOf] at h
  split at h
  ·rename_i k hu
   cases h
   obtain ⟨m,rfl,_,hw⟩:=DataW.trod_int hu ht
   refine ⟨[.v (.int k m)],?_,?_⟩
   ·rw [TR];exact ⟨_,_,rfl,by rw [TD];exact ⟨m,rfl,hw⟩,by rw [TR]⟩
   ·exact ⟨by rw [RD];exact ⟨rfl,rfl⟩,trivial⟩
  ·rename_i hu
   cases h
   obtain ⟨s,rfl,_,hs⟩:=DataW.trod_string hu ht
   refine ⟨[.v (.string s)],?_,?_⟩
   ·rw [TR];exact ⟨_,_,rfl,by rw [TD];exact ⟨s,rfl,hs⟩,by rw [TR]⟩
   ·exact ⟨by rw [RD];exact ⟨rfl,rfl⟩,trivial⟩
  ·rename_i hu
   cases h
   obtain ⟨b,rfl,_⟩:=DataW.trod_bool hu ht
   refine ⟨[.v (.bool b)],?_,?_⟩
   ·rw [TR];exact ⟨_,_,rfl,by rw [TD];exact ⟨b,rfl⟩,by rw [TR]⟩
   ·exact ⟨by rw [RD];exact ⟨rfl,rfl⟩,trivial⟩
  ·rename_i e hu
   split at h
   ·rename_i es he
    split at h
    ·rename_i hc
     cases h
     have hcs:∃ A len c,cs=[.slice A len c]:=by
      rcases Go.Deep.open_slice hu ht with ⟨h1,_⟩|⟨a,len,cap,m,fu,D,Pl,h1,_⟩
      ·exact ⟨_,_,_,h1⟩
      ·exact ⟨_,_,_,h1⟩
     obtain ⟨A,len,c,rfl⟩:=hcs
     obtain ⟨F,h1,h2,h3,h4⟩:=trod_rows hu hc.2 hc.1 ht
     have hall:∀ i,i < len → ∃ ds,TR es ds∧All2 (RD W (Here W)) ds (F i):=fun i hi=>by
      obtain ⟨_,m,y',hy⟩:=h3 i hi
      exact sh_ok n e es (F i) m y' he hy
     obtain ⟨G,hG⟩:=Go.Deep.choose_lt (n:=len) (p:=fun i ds=>TR es ds∧All2 (RD W (Here W)) ds (F i)) hall
     have hrows:∀ k,k≤len → All2 (RD W (Here W)) ((List.range k).map G).flatten ((List.range k).flatMap F):=by
      intro k
      induction k with
      | zero=>intro _;trivial
      | succ k ih =>
       intro hk
       rw [List.range_succ,List.map_append,List.flatten_append,List.flatMap_append]
       exact (ih (by omega)).append (by simpa using (hG k (by omega)).2)
     have hlen:((List.range len).map G).length=len:=by simp
     refine ⟨[.sl es.length ((List.range len).map G)],?_,?_⟩
     ·rw [TR]
      refine ⟨_,_,rfl,?_,by rw [TR]⟩
      rw [TD]
      refine ⟨_,rfl,by rw [hlen];exact Nat.le_trans h1 h2,fun r hr=>?_⟩
      obtain ⟨i,hi,rfl⟩:=List.mem_map.1 hr
      exact (hG i (List.mem_range.1 hi)).1
     ·refine ⟨?_,trivial⟩
      rw [rd_sl]
      refine ⟨A,c,_,by rw [hlen],by rw [hlen];exact h1,by rw [hlen];exact rd_here h4,?_⟩
      refine ⟨fun r hr=>?_,hrows len (Nat.le_refl _)⟩
      obtain ⟨i,hi,rfl⟩:=List.mem_map.1 hr
      exact (hG i (List.mem_range.1 hi)).1.len
    ·cases h
   ·cases h
  ·rename_i fs hu
   split at h
   ·rename_i ss' hfs
    split at h
    ·rename_i hc
     cases h
     obtain ⟨xs,m,_,_,hl,hlen,hf⟩:=DataW.trod_struct hu ht
     obtain ⟨ds,h1,h2⟩:=shFs_ok n fs.toList 0 ss cs hfs (by omega) (fun i f hi=>by
      have h1:=hf i f (by simpa using hi)
      have hi2:i < xs.length:=by
       have:=(List.getElem?_eq_some_iff.1 hi).1
       simp at this
       omega
      rw [List.getElem?_eq_getElem hi2] at h1
      exact ⟨_,_,h1⟩)
     refine ⟨ds,h1,?_⟩
     rw [List.drop_zero,List.take_of_length_le (by omega)] at h2
     exact h2
    ·cases h
   ·cases h
  ·cases h
theorem shFs_ok:∀ (n:Nat) (fs:List Field) (o:Nat) (ss:List Sh) (cs:List Value),shFs P n fs o=some ss → o+ss.length≤cs.length →
  (∀ (i:Nat) (f:Field),fs[i]? = some f → ∃ m y,DataW.trod enc P W 0 (fun _=>true) true m f.type ((cs.drop f.offset).take (P.cellsOf f.type))=some y) →
  ∃ ds,TR ss ds∧All2 (RD W (Here W)) ds ((cs.drop o).take ss.length)
 | 0,fs,o,ss,cs,h,_,_=>by simp [shFs] at h
 | n+1,[],o,ss,cs,h,_,_=>by
  rw [shFs] at h
  cases h
  exact ⟨[],by rw [TR],by simp [All2]⟩
 | n+1,f :: fs,o,ss,cs,h,hle,hf=>by
  rw [shFs] at h
  split at h
  ·rename_i s1 s2 h1 h2
   split at h
   ·rename_i hc
    cases h
    rw [List.length_append] at hle
    obtain ⟨m,y,hy⟩:=hf 0 f rfl
    rw [hc.1,hc.2] at hy
    obtain ⟨d1,t1,a1⟩:=sh_ok n f.type s1 _ m y h1 hy
    obtain ⟨d2,t2,a2⟩:=shFs_ok n fs (o+P.cellsOf f.type) s2 cs h2 (by omega) (fun i g hi=>hf (i+1) g (by simpa using hi))
    refine ⟨d1++d2,t1.append t2,?_⟩
    rw [List.length_append,List.take_add,List.drop_drop,← hc.2]
    have:=a1.append (by simpa using a2)
    rw [hc.2] at this ⊢
    exact this
   ·cases h
  ·cases h
end
end
def G0 (W:World):G:=⟨0,fun _=>0,fun _=>0,Here W⟩
theorem mem0 {W:World} (hp:Pin W) (hb:∀ b,PinB b → b < W.heap.size):MemOk (G0 W) [] W :=
 ⟨rfl,fun k o h=>by simp at h,fun k k' h=>absurd h (by simp [G0]),fun k h=>absurd h (by simp [G0]),fun b h=>h,hp,hb⟩
theorem calls_of_pure {P:Program} {g:FuncId} {args:List PV} {vs:Array Value} {W:World} {v:Value} (h:PCalls P g args [] fun r os=>r = .c (.v v)∧os=[]) (hp:Pin W) (hb:∀ b,PinB b → b < W.heap.size)
  (hx:All2 (RP W (G0 W)) args vs.toList):Calls P g vs W fun e W'=>e = .returned v∧Ext No W W':=by
 have:=h (G0 W) W vs.toList (mem0 hp hb) hx
 rw [Array.toArray_toList] at this
 refine this.mono ?_
 rintro e w' ⟨r,os',Γ',y,rfl,⟨rfl,_⟩,hr,_,_,hg⟩
 have h1:y=v:=hr.1
 subst h1
 exact ⟨rfl,hg.ext.mono fun b ⟨k,hk,_⟩=>absurd hk (by simp [G0])⟩
section
variable {H:Type} {enc:TypeId × Value → H} {P:Program} {W:World}
theorem open_sl {base:Nat} {t e:TypeId} {v:Value} {d:DataW H} {ps:List MemPlace} (n:Nat) (ss:List Sh) (ht:P.underlying t=some (.slice e)) (hs:shOf P n t=some [.sl ss]) (hv:Value.okWide P W .any base t v) (h:DataW.Trod enc P W 0 (fun _=>true) true t v d ps) :
  ∃ rows,rows.length≤maxLen∧(∀ r ∈ rows,TR ss r)∧RP W (G0 W) (.c (.sl ss.length rows)) v:=by
 obtain ⟨A,len,c,rfl⟩:=okWide_slice ht hv
 obtain ⟨fuel,hf⟩:=h
 obtain ⟨ds,h1,h2⟩:=sh_ok n t [.sl ss] [.slice A len c] fuel _ hs (by simpa [Value.cells] using hf)
 rw [TR] at h1
 obtain ⟨d',r',rfl,h3,h4⟩:=h1
 rw [TR] at h4
 subst h4
 rw [TD] at h3
 obtain ⟨rows,rfl,h5,h6⟩:=h3
 exact ⟨rows,h5,h6,h2.1⟩
end
theorem ints_of {rows:List (List D)} (h:∀ r ∈ rows,TR [.int .i64] r):∃ L:List Int,rows=L.map (fun x=>[D.v (.int .i64 x)])∧∀ x ∈ L,-9223372036854775808≤x∧x≤9223372036854775807:=by
 induction rows with
 | nil=>exact ⟨[],rfl,by simp⟩
 | cons r rows ih =>
  obtain ⟨L,rfl,h2⟩:=ih fun r' hr'=>h r' (by simp [hr'])
  have h1:=h r (by simp)
  simp only [TR,TD] at h1
  obtain ⟨_,_,rfl,⟨n,rfl,hn⟩,rfl⟩:=h1
  refine ⟨n :: L,rfl,fun x hx=>?_⟩
  rcases List.mem_cons.1 hx with rfl|hx
  ·exact int_bd hn
  ·exact h2 x hx
theorem sh_ints:shOf Tryz.prog 30 22=some [.sl [.int .i64]]:=by kernel_rfl
theorem pinM_of {w:World} (h:w.ShapedOpen Tryz.prog):Pin w :=
 Go.Proofs.cell_of_shapedOpen_int (zero := #[.int .i64 0]) (t:=3) h (of_decide_eq_true (by kernel_rfl)) (by kernel_rfl) rfl (by kernel_rfl) (by kernel_rfl) Tryz.underlying3
theorem pinM_lt {w:World} (h:Pin w):0 < w.heap.size:=by
 obtain ⟨m,hm⟩:=h
 rcases Nat.eq_zero_or_pos w.heap.size with h0|h0
 ·rw [World.cell?,Array.getElem?_eq_none (by rw [h0];exact Nat.le_refl _)] at hm
  simp at hm
 ·exact h0
theorem pin_start {W:World} (hsh:W.ShapedOpen Tryz.prog):Pin W∧∀ b,PinB b → b < W.heap.size :=
 ⟨pinM_of hsh,fun b hb=>by have h:b=0:=hb;subst h;exact pinM_lt (pinM_of hsh)⟩
end Go.Proofs.YtgijigkfmbiifaaGreatDoor
