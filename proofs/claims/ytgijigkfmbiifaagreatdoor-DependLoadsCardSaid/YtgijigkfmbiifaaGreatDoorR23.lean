/- What the program computes, and the plain laws of it, part 23. -/
import Derived.Test.YtgijigkfmbiifaaGreatDoorR18
import Derived.Test.YtgijigkfmbiifaaGreatDoorR21
import Derived.Test.YtgijigkfmbiifaaGreatDoorR22
namespace Go.Proofs.YtgijigkfmbiifaaGreatDoor
attribute [local irreducible] PL QL PWPr PCalls Weak RetK Kontr PA
open Go.RowKit
open IntWalk renaming iteOmega → iO, toNatUp → tN
set_option linter.unusedVariables false
set_option linter.unusedSimpArgs false
set_option maxRecDepth 20000
set_option maxHeartbeats 1000000 in
theorem text_pure (s:ByteArray) (hs:s.size≤9223372036854775807):PCalls Tryz.prog 120 [.c (.v (.string s))] [] fun r os=>r = .c (.v (.bool (textS s)))∧os=[]:=by
 refine pcalls_of Tryz.func120 rfl (by simp [Tryz.ntmps120]) ?_
 rw [Tryz.ntmps120,Tryz.results120]
 push_cast [iO,tN]
 have cB:CutB 7 []:=trivial
 repeat' (first|((first|refine pC ?_|refine pQC ?_|refine pU ?_);push_cast [iO,tN])|(refine pif (fun h=>?_) (fun h=>?_)<;>first|exact pN h|push_cast [iO,tN]))
 (apply pwp_loop3 (α:=Nat) 7 [] (fun k=>[(6,.c (.v (.int .i64 k)))]) (fun k=>[]) (fun k=>k≤s.size∧(s.data.toList.take k).all textB=true) (fun k=>s.size - k) (0);(focus ((try push_cast [iO,tN]);rfl));(focus exact ⟨by omega,rfl⟩);(focus ((refine weak_fg ?_;try push_cast [iO,tN]))))
 rintro k ⟨hk,ha⟩
 push_cast [iO,tN]
 by_cases hlt:k < s.size
 ·by_cases h1:((s.data.toList.getD k 0).toNat:Int) < 32
  ·have e:=all_not hlt (p:=textB) (by unfold textB;rw [decide_eq_false (by omega)];rfl)
   repeat' (first|((first|refine pC ?_|refine pQC ?_|refine pU ?_);push_cast [iO,tN,h1])|(refine pif (fun h=>?_) (fun h=>?_)<;>first|exact pN h|push_cast [iO,tN,h1]))
   (refine retK_of [] ?_;push_cast [iO,tN])
   rw [textS,e];rfl
  ·by_cases h2:(126:Int) < ((s.data.toList.getD k 0).toNat:Int)
   ·have e:=all_not hlt (p:=textB) (by unfold textB;rw [decide_eq_false (p:=(s.data.toList.getD k 0).toNat≤126) (by omega),Bool.and_false])
    repeat' (first|((first|refine pC ?_|refine pQC ?_|refine pU ?_);push_cast [iO,tN,h1,h2])|(refine pif (fun h=>?_) (fun h=>?_)<;>first|exact pN h|push_cast [iO,tN,h1,h2]))
    (refine retK_of [] ?_;push_cast [iO,tN])
    rw [textS,e];rfl
   ·have e:=all_next hlt ha (by unfold textB;rw [decide_eq_true (by omega),decide_eq_true (by omega)];rfl)
    repeat' (first|((first|refine pC ?_|refine pQC ?_|refine pU ?_);push_cast [iO,tN,h1,h2])|(refine pif (fun h=>?_) (fun h=>?_)<;>first|exact pN h|push_cast [iO,tN,h1,h2]))
    exact ⟨k+1,⟨by omega,e⟩,by (refine weak_fg ?_;push_cast [iO,tN]),by omega⟩
 ·have hk2:k=s.size:=by omega
  subst hk2
  have he:s.data.toList.take s.size=s.data.toList:=List.take_of_length_le (Nat.le_refl _)
  rw [he] at ha
  have hd:decide ((s.size:Int)≤256)=decide (s.size≤256):=decide_eq_decide.2 (by omega)
  repeat' (first|((first|refine pC ?_|refine pQC ?_|refine pU ?_);push_cast [iO,tN])|(refine pif (fun h=>?_) (fun h=>?_)<;>first|exact pN h|push_cast [iO,tN]))
  (refine retK_of [] ?_;push_cast [iO,tN])
  rw [textS,ha,Bool.true_and,← hd]
set_option maxRecDepth 20000
def parseR (p:ByteArray):PV:=.two (if globM p=0 then .c (.sl 1 (altsD ((altsM p).getD []))) else .c (.v (.slice none 0 0))) (.c (.v (.int .i64 (globM p))))
set_option maxRecDepth 20000 in
set_option maxHeartbeats 4000000 in
theorem parse_pure (p:ByteArray) (hf:p.size≤9223372036854775807):PCalls Tryz.prog 88 [.c (.v (.string p))] [] fun r os=>r=parseR p∧os=[]:=by
 have ht:=text_pure p hf
 refine pcalls_of Tryz.func88 rfl (by simp [Tryz.ntmps88]) ?_
 rw [Tryz.ntmps88,Tryz.results88]
 push_cast [-List.reduceReplicate,iO,tN]
 unfold parseR
 by_cases h1:256 < p.size
 ·have hR:globM p=21:=by unfold globM;rw [if_pos h1]
  have h1':(256:Int) < (p.size:Int):=by omega
  repeat' (first|((first|refine pG ?_|refine pQ ?_|refine pU ?_);push_cast [-List.reduceReplicate,iO,tN,h1'])|(refine pif (fun h=>?_) (fun h=>?_)<;>first|exact pN h|push_cast [-List.reduceReplicate,iO,tN,h1']))
  (refine retK_of [] ?_;push_cast [-List.reduceReplicate,iO,tN,hR])
 have h1':¬ (256:Int) < (p.size:Int):=by omega
 by_cases h2:p.data.toList.all textB=true
 case neg =>
  have h2':=Bool.eq_false_iff.2 h2
  have hR:globM p=20:=by unfold globM;rw [if_neg h1,if_pos (by rw [h2'];rfl)]
  have hts:textS p=false:=by unfold textS;rw [h2'];rfl
  rw [hts] at ht
  repeat' (first|((refine plc [] (ht) ?_ ?_;push_cast [-List.reduceReplicate,iO,tN,h1'];rintro r os ⟨rfl,rfl⟩;push_cast [-List.reduceReplicate,iO,tN,h1']))|((first|refine pG ?_|refine pQ ?_|refine pU ?_);push_cast [-List.reduceReplicate,iO,tN,h1'])|(refine pif (fun h=>?_) (fun h=>?_)<;>first|exact pN h|push_cast [-List.reduceReplicate,iO,tN,h1']))
  (refine retK_of [] ?_;push_cast [-List.reduceReplicate,iO,tN,hR])
 have hts:textS p=true:=by unfold textS;rw [h2,decide_eq_true (by omega)];rfl
 rw [hts] at ht
 have ha:=alts_pure p (by omega) (text_byt h2) fun i hi=>bset_pure p i hi (by omega) (text_byt h2)
 cases hq:altsM p with
 | none =>
  have hR:globM p=20:=by unfold globM;rw [if_neg h1,if_neg (by rw [h2];simp),hq]
  rw [hq] at ha
  repeat' (first|((refine plc [] (ht) ?_ ?_;push_cast [-List.reduceReplicate,iO,tN,h1'];rintro r os ⟨rfl,rfl⟩;push_cast [-List.reduceReplicate,iO,tN,h1']))|((refine plc [0] (ha) ?_ ?_;push_cast [-List.reduceReplicate,iO,tN,h1'];rintro r os ⟨⟨i,rfl⟩,rfl⟩;push_cast [-List.reduceReplicate,iO,tN,h1']))|((first|refine pG ?_|refine pQ ?_|refine pU ?_);push_cast [-List.reduceReplicate,iO,tN,h1'])|(refine pif (fun h=>?_) (fun h=>?_)<;>first|exact pN h|push_cast [-List.reduceReplicate,iO,tN,h1']))
  (refine retK_of [] ?_;push_cast [-List.reduceReplicate,iO,tN,hR])
 | some l =>
  have hR:globM p=0:=by unfold globM;rw [if_neg h1,if_neg (by rw [h2];simp),hq]
  rw [hq] at ha
  repeat' (first|((refine plc [] (ht) ?_ ?_;push_cast [-List.reduceReplicate,iO,tN,h1'];rintro r os ⟨rfl,rfl⟩;push_cast [-List.reduceReplicate,iO,tN,h1']))|((refine plc [0] (ha) ?_ ?_;push_cast [-List.reduceReplicate,iO,tN,h1'];rintro r os ⟨⟨i,rfl⟩,rfl⟩;push_cast [-List.reduceReplicate,iO,tN,h1']))|((first|refine pG ?_|refine pQ ?_|refine pU ?_);push_cast [-List.reduceReplicate,iO,tN,h1'])|(refine pif (fun h=>?_) (fun h=>?_)<;>first|exact pN h|push_cast [-List.reduceReplicate,iO,tN,h1']))
  (refine retK_of [] ?_;push_cast [-List.reduceReplicate,iO,tN,hR])
  rfl
theorem gchk_pure (p:ByteArray) (hf:p.size≤9223372036854775807):PCalls Tryz.prog 55 [.c (.v (.string p))] [] fun r os=>r = .c (.v (.int .i64 (globM p)))∧os=[]:=by
 have hp:=parse_pure p hf
 unfold parseR at hp
 refine pcalls_of Tryz.func55 rfl (by simp [Tryz.ntmps55]) ?_
 rw [Tryz.ntmps55,Tryz.results55]
 push_cast [-List.reduceReplicate,iO,tN]
 by_cases h:globM p=0
 ·rw [if_pos h] at hp
  repeat' (first |  ((refine plc [] (hp) ?_ ?_;push_cast [-List.reduceReplicate,iO,tN];rintro r os ⟨rfl,rfl⟩;push_cast [-List.reduceReplicate,iO,tN]))  | ((first|refine pG ?_|refine pQ ?_|refine pU ?_);push_cast [-List.reduceReplicate,iO,tN])|(refine pif (fun h=>?_) (fun h=>?_)<;>first|exact pN h|push_cast [-List.reduceReplicate,iO,tN]))
  (refine retK_of [] ?_;push_cast [-List.reduceReplicate,iO,tN])
 ·rw [if_neg h] at hp
  repeat' (first |  ((refine plc [] (hp) ?_ ?_;push_cast [-List.reduceReplicate,iO,tN];rintro r os ⟨rfl,rfl⟩;push_cast [-List.reduceReplicate,iO,tN]))  | ((first|refine pG ?_|refine pQ ?_|refine pU ?_);push_cast [-List.reduceReplicate,iO,tN])|(refine pif (fun h=>?_) (fun h=>?_)<;>first|exact pN h|push_cast [-List.reduceReplicate,iO,tN]))
  (refine retK_of [] ?_;push_cast [-List.reduceReplicate,iO,tN])
end Go.Proofs.YtgijigkfmbiifaaGreatDoor
namespace Go.Proofs.YtgijigkfmbiifaaGreatDoor
open Go.RowKit
open IntWalk renaming iteOmega → iO, toNatUp → tN
set_option linter.unusedVariables false
set_option linter.unusedSimpArgs false
structure Evt where
 seq:Int
 act:Int
 idx:Int
 path:ByteArray
 old:ByteArray
 deriving DecidableEq,Inhabited
def Evt.d (e:Evt):List D:=[.v (.int .i64 e.seq),.v (.int .i64 e.act),.v (.int .i64 e.idx),.v (.string e.path),.v (.string e.old)]
attribute [push_cast] Evt.d
structure Ker where
 tree:List Dev
 mods:List Mod
 loaded:List ByteArray
 evs:List Evt
 top:Int
structure Opr where
 kind:Int
 path:ByteArray
 dev:Dev
 name:ByteArray
 value:ByteArray
def Opr.e (o:Opr):List E:=[.v (.int .i64 o.kind),.v (.string o.path),.v (.int .i64 o.dev.index),.v (.int .i64 o.dev.parent),.v (.string o.dev.name),.v (.string o.dev.original),.v (.string o.dev.subsystem),.v (.string o.dev.driver),.v (.string o.dev.alias_),.v (.int .i64 o.dev.kind),.v (.int .i64 o.dev.number),.sl 2 (o.dev.attrs.map Atr.d),.v (.string o.name),.v (.string o.value)]
attribute [push_cast] Opr.e
end Go.Proofs.YtgijigkfmbiifaaGreatDoor
namespace Go.Proofs.YtgijigkfmbiifaaGreatDoor
attribute [local irreducible] PL QL PWPr PCalls Weak RetK Kontr PA
open Go.RowKit
open IntWalk renaming iteOmega → iO, toNatUp → tN
set_option linter.unusedVariables false
set_option linter.unusedSimpArgs false
set_option maxRecDepth 20000
def kerB (a b:Nat) (k:Ker):Ob:=.box 77 [.sl 10 (k.tree.map Dev.d),.sl 6 (k.mods.map Mod.d),.own a k.loaded.length,.own b k.evs.length,.v (.int .i64 k.top)]
def kerL (k:Ker):Ob:=.arr 9 1 (k.loaded.map strD)
def kerV (k:Ker):Ob:=.arr 106 5 (k.evs.map Evt.d)
def kerO (k:Ker):List Ob:=[kerB 1 2 k,kerL k,kerV k]
attribute [push_cast] kerB kerL kerV kerO
theorem kmod1_pure (m:Mod) (n:ByteArray):PCalls Tryz.prog 53 [.agg m.e,.c (.ptr 0 0)] [.box 9 [.v (.string n)]] fun r os=>r = .c (.v (.bool (decide (m.name=n))))∧os=[.box 9 [.v (.string n)]]:=by
 refine pcalls_of Tryz.func53 rfl (by simp [Tryz.ntmps53]) ?_
 rw [Tryz.ntmps53,Tryz.results53]
 push_cast [iO,tN]
 repeat' (first|((first|refine pG ?_|refine pQ ?_|refine pU ?_);push_cast [iO,tN])|(refine pif (fun h=>?_) (fun h=>?_)<;>first|exact pN h|push_cast [iO,tN]))
 (refine retK_of [0] ?_;push_cast [iO,tN])
theorem mod_no {l:List Mod} {n:ByteArray} (h:∀ x ∈ l,decide (x.name=n)=false):modOf l n=none:=by
 unfold modOf
 rw [List.find?_eq_none]
 intro x hx
 simpa using h x hx
theorem mod_at {l:List Mod} {n:ByteArray} {i:Nat} (hi:i < l.length) (hq:decide ((l.getD i default).name=n)=true) (hpre:∀ x ∈ l.take i,decide (x.name=n)=false):modOf l n=some (l.getD i default):=by
 unfold modOf
 rw [List.find?_eq_some_iff_append]
 refine ⟨hq,l.take i,l.drop (i+1),?_,fun a ha=>by simpa using hpre a ha⟩
 rw [getD_lt l hi]
 conv=>lhs;rw [← List.take_append_drop i l,List.drop_eq_getElem_cons hi]
theorem kmod_pure (k:Ker) (n:ByteArray) (hl:k.mods.length≤1000000):PCalls Tryz.prog 35 [.c (.ptr 0 0),.c (.v (.string n))] (kerO k) fun r os=>r = .two (.agg ((modOf k.mods n).getD noMod).e) (.c (.v (.bool ((modOf k.mods n).isSome))))∧os=kerO k:=by
 have hi:=indexFuncM_pure k.mods (by omega) 53 [0] [.box 9 [.v (.string n)]] (fun m=>decide (m.name=n)) ⟨by kernel_rfl,fun x _=>kmod1_pure x n⟩
 refine pcalls_of Tryz.func35 rfl (by simp [Tryz.ntmps35]) ?_
 rw [Tryz.ntmps35,Tryz.results35]
 push_cast [iO,tN]
 repeat' (first|((first|refine pG ?_|refine pQ ?_|refine pU ?_);push_cast [iO,tN])|(refine pif (fun h=>?_) (fun h=>?_)<;>first|exact pN h|push_cast [iO,tN]))
 (refine plc [3] (hi) ?_ ?_;push_cast [iO,tN];rintro r os ⟨j,hk,rfl,rfl⟩;push_cast [iO,tN])
 rcases hk with ⟨rfl,hn⟩|⟨i,rfl,hi2,hq,hpre⟩
 ·have hR:=mod_no hn
  repeat' (first|((first|refine pG ?_|refine pQ ?_|refine pU ?_);push_cast [iO,tN])|(refine pif (fun h=>?_) (fun h=>?_)<;>first|exact pN h|push_cast [iO,tN]))
  (refine retK_of [0,1,2] ?_;push_cast [iO,tN,hR,Option.getD_none,Option.isSome_none,noMod])
  repeat' (first|exact rfl|exact leOs_refl _|exact trivial|refine ⟨?_,?_⟩)
 ·have hR:=mod_at hi2 hq hpre
  repeat' (first|((first|refine pG ?_|refine pQ ?_|refine pU ?_);push_cast [iO,tN])|(refine pif (fun h=>?_) (fun h=>?_)<;>first|exact pN h|push_cast [iO,tN]))
  (refine retK_of [0,1,2] ?_;push_cast [iO,tN,hR,Option.getD_some,Option.isSome_some])
  repeat' (first|exact rfl|exact leOs_refl _|exact trivial|refine ⟨?_,?_⟩)
end Go.Proofs.YtgijigkfmbiifaaGreatDoor
namespace Go.Proofs.YtgijigkfmbiifaaGreatDoor
open Go.RowKit
open IntWalk renaming iteOmega → iO, toNatUp → tN
set_option linter.unusedVariables false
set_option linter.unusedSimpArgs false
def PCallsG (m:Nat) (P:Program) (g:FuncId) (args:List PV) (os:List Ob) (R:PV → List Ob → Prop):Prop :=
 ∀ Γ w (xs:List Value),MemOk Γ os w → All2 (RP w Γ) args xs → Calls P g xs.toArray w fun e w' =>
  ∃ r os' Γ' y,e = .returned y∧R r os'∧RP w' Γ' r y∧os.length≤os'.length∧MemOk Γ' os' w'∧Grow m Γ w Γ' w'
theorem calls_pwpG {P:Program} {g:FuncId} {fn:Func} {c:Code} {args:List PV} {os:List Ob} {Q:Exit → S → Prop} {T:S → Prop} {R:PV → List Ob → Prop} (m:Nat) (hm0:m≤os.length) (hf:P.funcs[g]? = some fn) (hb:fn.body=some c) (hn:args.length≤fn.ntmps)
  (hQ:∀ e s,Q e s → (e = .normal∨e = .ret)∧T s)
  (hT:∀ s Γ Γ' a w w',T s → Inv fn.ntmps Γ' s a w' → Grow m Γ w Γ' w' → ∃ v,(results fn a.tmps).run P w' = .ok v w'∧∃ r os' Γ',R r os'∧RP w' Γ' r v∧os.length≤os'.length∧MemOk Γ' os' w'∧Grow m Γ w Γ' w')
  (h:PWP P fn.ntmps m c Q ⟨parT 0 args,os⟩):PCallsG m P g args os R:=by
 intro Γ w xs hm hx
 refine fw_calls (rd:=none) (n:=0) (callsIn_of_wp_marks hf hb trivial ?_)
 have hl:=hx.length
 have hA:Stands fn.ntmps m Γ ⟨parT 0 args,os⟩ { tmps:=xs.toArray++Array.replicate (fn.ntmps - xs.toArray.size) Go.undef,defers:=[] } w:=by
  refine ⟨⟨?_,trivial,fun i q hq=>?_,hm⟩,by rw [hm.n];exact hm0⟩
  ·simp;omega
  ·obtain ⟨_,h2⟩:=parT_look args 0 i q hq
   rw [Nat.sub_zero] at h2
   obtain ⟨y,h3,h4⟩:=hx.get i q h2
   have hi:i < xs.length:=(List.getElem?_eq_some_iff.1 h3).1
   refine ⟨by omega,?_⟩
   have:(xs.toArray++Array.replicate (fn.ntmps - xs.toArray.size) Go.undef).getD i Go.undef=y:=by
    rw [Array.getD_eq_getD_getElem?,Array.getElem?_append_left (by simpa using hi),List.getElem?_toArray,h3]
    rfl
   rw [this]
   exact h4
 refine wpIn_mono (h w.heap.size Γ _ w hA (DefOk.nil (Nat.le_refl _))) ?_
 rintro e a' w' ⟨s',Γ',hq,hA',hg,hd⟩
 obtain ⟨he,ht⟩:=hQ e s' hq
 have fin:LeavesInM (Fw none) 0 P fn a'.tmps (fun e w'=>∃ r os' Γ' y,e = .returned y∧R r os'∧RP w' Γ' r y∧os.length≤os'.length∧MemOk Γ' os' w'∧Grow m Γ w Γ' w') a'.defers .returning w':=by
  refine leaves_marks (B:=fun D=>OffM Γ' D∧w.heap.size≤D) _ _ hd.2.1 (fun d hd'=>?_) fun w'' hw''=>?_
  ·obtain ⟨D,h1,h2,h3,h4⟩:=hd.2.2 d hd'
   exact ⟨D,h1,h2,h3,h4⟩
  ·have hI:=hA'.inv.offm (hw''.mono fun b hb=>hb.1)
   obtain ⟨v,h1,r,os',Γ2,h2,h3,h4,h5,h6⟩:=hT s' Γ Γ' a' w w'' ht hI (grow_offm hg hw'' fun b hb=>hb.2)
   exact ⟨v,h1,r,os',Γ2,v,rfl,h2,h3,h4,h5,h6⟩
 rcases he with rfl|rfl
 ·exact fin
 ·exact fin
theorem pcalls_ofG {P:Program} {g:FuncId} {fn:Func} {c:Code} {args:List PV} {os:List Ob} {R:PV → List Ob → Prop} (m:Nat) (hm0:m≤os.length) (hf:P.funcs[g]? = some fn) (hb:fn.body=some c) (hn:args.length≤fn.ntmps) (hl:∀ r os',R r os' → os.length≤os'.length)
  (h:PWP P fn.ntmps m c (RetQ P fn.results.toList m R) ⟨parT 0 args,os⟩):PCallsG m P g args os R:=by
 refine calls_pwpG (T:=RetK P fn.results.toList m R) m hm0 hf hb hn (fun e s hq=>?_) (fun s' Γ Γ' a' w w' ht hI hg=>?_) h
 ·cases e with
  | normal=>exact ⟨.inl rfl,hq⟩
  | ret=>exact ⟨.inr rfl,hq⟩
  | exit j=>exact hq.elim
  | goto l=>exact hq.elim
  | panic ch=>exact hq.elim
  | outgrown=>exact hq.elim
 ·obtain ⟨kk,r,r',os',r2,os2,h1,h2,h3,h4,h5,h6,hl1,hl2,h7⟩:=ht
  obtain ⟨y,h8,h9⟩:=resP_ok hI h1
  have hks:∀ k ∈ kk,k < Γ'.n:=fun k hk=>by rw [hI.m.n];simpa using List.all_eq_true.1 h5 k hk
  have hmem:=leOs_mem hl2 (see_mem (v:=true) hI.m hks h4 h3)
  simp only [firstOk,Bool.and_eq_true,decide_eq_true_eq,List.all_eq_true,List.mem_range,beq_iff_eq] at h6
  refine ⟨y,h8,r2,os2,seeG true kk Γ',h7,leP_ok hl1 (seeR_ok hI.m hks h2 h9),hl _ _ h7,hmem,hg.trans ⟨Ext.refl _ _,fun b hb=>.inl hb,fun k hk hc=>.inl ⟨kk.getD k 0,hks _ ?_,hc,rfl⟩,fun b hb=>?_,fun k hk=>?_⟩⟩
  ·have hk':k < kk.length:=hk
   simp only [List.getD,List.getElem?_eq_getElem hk',Option.getD_some]
   exact List.getElem_mem _
  ·rcases hb with hb|⟨_,hb,_⟩
   ·exact .inl hb
   ·exact .inr (.inl hb)
  ·simp only [seeG,h6.2 k hk,and_self]
theorem E.kill_keys (k:Nat) (e:E):∀ j ∈ (e.kill k).keys,j ∈ e.keys:=by
 intro j hj
 cases e<;>simp only [E.kill] at hj<;>first|exact hj|(split at hj<;>first|exact hj|simp [E.keys] at hj)
theorem PV.kill_keys (k:Nat):∀ (q:PV),∀ j ∈ (q.kill k).keys,j ∈ q.keys
 | .c e,j,hj=>E.kill_keys k e j hj
 | .agg cs,j,hj=>by
  simp only [PV.kill,PV.keys,List.mem_flatMap,List.mem_map] at hj ⊢
  obtain ⟨e',⟨e,h1,rfl⟩,h2⟩:=hj
  exact ⟨e,h1,E.kill_keys k e j h2⟩
 | .undef,j,hj=>hj
 | .two x y,j,hj=>by
  simp only [PV.kill,PV.keys,List.mem_append] at hj ⊢
  exact hj.imp (PV.kill_keys k x j) (PV.kill_keys k y j)
 | .three x y z,j,hj=>by
  simp only [PV.kill,PV.keys,List.mem_append] at hj ⊢
  exact hj.imp (Or.imp (PV.kill_keys k x j) (PV.kill_keys k y j)) (PV.kill_keys k z j)
def killTs:List Nat → List (Nat × PV) → List (Nat × PV)
 | [],t=>t
 | k :: r,t=>killTs r (killT k t)
def killOs:List Nat → List Ob → List Ob
 | [],os=>os
 | k :: r,os=>killOs r (killO k os)
def PV.kills:List Nat → PV → PV
 | [],q=>q
 | k :: r,q=>PV.kills r (q.kill k)
def Ob.kills:List Nat → Ob → Ob
 | [],o=>o
 | k :: r,o=>Ob.kills r (o.kill k)
theorem PV.kills_keys:∀ (l:List Nat) (q:PV),∀ j ∈ (q.kills l).keys,j ∈ q.keys
 | [],q,j,hj=>hj
 | k :: r,q,j,hj=>PV.kill_keys k q j (PV.kills_keys r _ j hj)
theorem RP.kills {w:World} {Γ:G} {y:Value}:∀ (l:List Nat) {q:PV},RP w Γ q y → RP w Γ (q.kills l) y∧∀ k ∈ l,k ∉ (q.kills l).keys
 | [],q,h=>⟨h,by simp⟩
 | k :: r,q,h=>by
  obtain ⟨h1,h2⟩:=RP.kill k h
  obtain ⟨h3,h4⟩:=RP.kills r h1
  refine ⟨h3,fun j hj=>?_⟩
  rcases List.mem_cons.1 hj with rfl|hj
  ·exact fun hx=>h2 (PV.kills_keys r _ _ hx)
  ·exact h4 j hj
theorem look_kills (i:Nat):∀ (l:List Nat) (t:List (Nat × PV)),look (killTs l t) i=(look t i).map (PV.kills l)
 | [],t=>by rw [killTs];cases look t i<;>rfl
 | k :: r,t=>by
  rw [killTs,look_kills i r,look_kill,Option.map_map]
  rfl
theorem killOs_get (i:Nat):∀ (l:List Nat) (os:List Ob),(killOs l os)[i]? = (os[i]?).map (Ob.kills l)
 | [],os=>by rw [killOs];cases os[i]?<;>rfl
 | k :: r,os=>by
  rw [killOs,killOs_get i r,killO_get,Option.map_map]
  rfl
theorem killOs_length:∀ (l:List Nat) (os:List Ob),(killOs l os).length=os.length
 | [],os=>rfl
 | k :: r,os=>by rw [killOs,killOs_length r,killO_length]
theorem kills_box (ty:TypeId):∀ (l:List Nat) (cs:List E),∃ cs',Ob.kills l (.box ty cs) = .box ty cs'∧PV.kills l (.agg cs) = .agg cs'
 | [],cs=>⟨cs,rfl,rfl⟩
 | k :: r,cs=>kills_box ty r (cs.map (E.kill k))
theorem kills_loop (b:Nat) (L:LoopR):∀ (l:List Nat) (t:List (Nat × PV)),Ob.kills l (.loop b L t) = .loop b L (killTs l t)
 | [],t=>rfl
 | k :: r,t=>kills_loop b L r (killT k t)
theorem kills_arr (el:TypeId) (sz:Nat) (rows:List (List D)):∀ (l:List Nat),Ob.kills l (.arr el sz rows) = .arr el sz rows
 | []=>rfl
 | k :: r=>kills_arr el sz rows r
theorem kills_map (kk:Option IntKind) (ag:Bool) (es:List (MK × List D)):∀ (l:List Nat),Ob.kills l (.map kk ag es) = .map kk ag es
 | []=>rfl
 | k :: r=>kills_map kk ag es r
theorem RO.stayK {w w':World} {Γ Γ':G} {k:Nat} {o:Ob} (bad:List Nat) (h:RO w Γ k o) (hs:Stay w Γ.I w' Γ'.I) (ha:∀ j,j < Γ.n → j ∉ bad → Agree Γ Γ' j) (hk:k < Γ.n) (hkb:k ∉ bad) (hb:0 < Γ.cap k → w'.heap[Γ.β k]? = w.heap[Γ.β k]?):RO w' Γ' k (o.kills bad):=by
 obtain ⟨_,h2,h3⟩:=ha k hk hkb
 cases o with
 | box ty cs =>
  obtain ⟨h0,xs,h4,h5,h6⟩:=h
  obtain ⟨cs',e1,e2⟩:=kills_box ty bad cs
  rw [e1]
  obtain ⟨g1,g2⟩:=RP.kills bad (q:=.agg cs) (y:=.agg xs.toArray) (Γ:=Γ) (w:=w) ⟨xs,rfl,h5⟩
  rw [e2] at g1 g2
  obtain ⟨xs',g3,g4⟩:=g1
  have g5:xs'=xs:=by
   have:=g3
   simp at this
   exact this.symm
  subst g5
  exact ⟨by rw [h3];exact h0,xs',by rw [h2];exact (hb h0).trans h4,re_stay g4 hs fun j hj=>ha j (re_lt g4 j hj) fun hx=>g2 j hx hj,by unfold Room;rw [h3];exact h6⟩
 | arr el sz rows =>
  rw [kills_arr]
  have hg:∃ Γ2:G,Γ2=⟨Γ.n,Γ.β,Γ.cap,Γ'.I⟩:=⟨_,rfl⟩
  obtain ⟨h4,h5,h6,h7⟩:=h
  refine ⟨h4,h5,by rw [h3];exact h6,fun hc=>?_⟩
  rw [h3] at hc ⊢
  obtain ⟨cur,g1,g2,g3,g4,g5⟩:=h7 hc
  exact ⟨cur,by rw [h2];exact (hb hc).trans g1,g2,g3,g4,g5.mono fun _ _=>RD.stay hs _ _⟩
 | map kk ag es =>
  rw [kills_map]
  obtain ⟨h0,ms,ck,h4,h5⟩:=h
  exact ⟨by rw [h3];exact h0,ms,ck,by rw [h2];exact (hb h0).trans h4,h5.stay hs⟩
 | loop l L t =>
  rw [kills_loop]
  obtain ⟨h0,h1,tm,h4,h5,h6⟩:=h
  refine ⟨by rw [h3];exact h0,by rw [h2];exact h1,tm,?_,h5,fun i q hq=>?_⟩
  ·rw [← h1];rw [← h1] at h4;exact (hb h0).trans h4
  ·rw [look_kills] at hq
   obtain ⟨q0,hq0,rfl⟩:=Option.map_eq_some_iff.1 hq
   obtain ⟨i1,i2⟩:=h6 i q0 hq0
   obtain ⟨i3,i4⟩:=RP.kills bad i2
   exact ⟨i1,i3.stay hs fun j hj=>ha j (i3.lt j hj) fun hx=>i4 j hx hj⟩
theorem posK_get {ks:List Nat} (hnd:ks.Nodup) {j:Nat} (hj:j < ks.length):posK ks (ks.getD j 0)=some j:=by
 cases h:posK ks (ks.getD j 0) with
 | none =>
  refine absurd ?_ (posK_none h)
  simp only [List.getD,List.getElem?_eq_getElem hj,Option.getD_some]
  exact List.getElem_mem _
 | some i =>
  obtain ⟨h1,h2⟩:=posK_ok h
  simp only [List.getD,List.getElem?_eq_getElem hj,List.getElem?_eq_getElem h1,Option.getD_some] at h2
  have:i=j:=(List.getElem?_inj h1 hnd).1 (by rw [List.getElem?_eq_getElem h1,List.getElem?_eq_getElem hj,h2])
  rw [this]
def tau (ks:List Nat) (n:Nat) (i:Nat):Option Nat:=match posK ks i with
 | some j=>some j
 | none=>if i < n then none else some (ks.length+(i - n))
theorem tau_rho {ks:List Nat} {n:Nat} (hnd:ks.Nodup) (hks:∀ k ∈ ks,k < n) (j:Nat):tau ks n (rho ks n j)=some j:=by
 unfold tau rho
 by_cases hj:j < ks.length
 ·rw [if_pos hj,posK_get hnd hj]
 ·rw [if_neg hj]
  cases h:posK ks (n+(j - ks.length)) with
  | some i =>
   obtain ⟨h1,h2⟩:=posK_ok h
   have h3:=hks (ks.getD i 0) (by simp only [List.getD,List.getElem?_eq_getElem h1,Option.getD_some];exact List.getElem_mem _)
   omega
  | none=>simp only;rw [if_neg (by omega)];congr 1;omega
theorem tau_some {ks:List Nat} {n i j:Nat} (h:tau ks n i=some j):rho ks n j=i:=by
 unfold tau at h
 split at h
 ·rename_i j' e
  cases h
  obtain ⟨h1,h2⟩:=posK_ok e
  unfold rho;rw [if_pos h1,h2]
 ·split at h
  ·cases h
  ·cases h
   unfold rho;rw [if_neg (by omega)];omega
theorem tau_none {ks:List Nat} {n i:Nat} (h:tau ks n i=none):i < n∧i ∉ ks:=by
 unfold tau at h
 split at h
 ·cases h
 ·rename_i e
  split at h
  ·rename_i hi;exact ⟨hi,posK_none e⟩
  ·cases h
def backG2 (ks:List Nat) (Γ Γ':G):G :=
 ⟨Γ.n+(Γ'.n - ks.length),fun i=>match tau ks Γ.n i with|some j=>Γ'.β j|none=>Γ.β i,fun i=>match tau ks Γ.n i with|some j=>Γ'.cap j|none=>Γ.cap i,Γ'.I⟩
theorem absorbG {N p m:Nat} {ks:List Nat} {Γ Γ':G} {s:S} {a:Act} {w w':World} {os':List Ob} {r:PV} {y:Value} (hA:Stands N p Γ s a w) (hks:∀ k ∈ ks,k < Γ.n) (hnd:ks.Nodup) (hlen:ks.length≤os'.length) (hmk:m≤ks.length) (hgv:∀ k ∈ ks.drop m,p≤k)
  (hm:MemOk Γ' os' w') (hg:Grow m (seeG false ks Γ) w Γ' w') (hr:RP w' Γ' r y) :
  Stands N p (backG2 ks Γ Γ') ⟨killTs (ks.drop m) s.t,putBack (rho ks s.o.length) (killOs (ks.drop m) s.o) ks os'⟩ a w'∧RP w' (backG2 ks Γ Γ') (r.ren (rho ks s.o.length)) y∧Grow p Γ w (backG2 ks Γ Γ') w':=by
 have hn:=hA.inv.m.n
 obtain ⟨Γb,hΓb⟩:∃ Γb,Γb=backG2 ks Γ Γ':=⟨_,rfl⟩
 rw [← hΓb]
 have q1:Γb.n=Γ.n+(Γ'.n - ks.length):=by rw [hΓb];rfl
 have q2:∀ i,tau ks Γ.n i=none → Γb.β i=Γ.β i∧Γb.cap i=Γ.cap i:=fun i hi=>by rw [hΓb];simp only [backG2,hi,and_self]
 have q3:∀ i j,tau ks Γ.n i=some j → Γb.β i=Γ'.β j∧Γb.cap i=Γ'.cap j:=fun i j hi=>by rw [hΓb];simp only [backG2,hi,and_self]
 have q4:Γb.I=Γ'.I:=by rw [hΓb];rfl
 have hgetk:∀ j,j < ks.length → ks.getD j 0 ∈ ks:=fun j hj=>by simp only [List.getD,List.getElem?_eq_getElem hj,Option.getD_some];exact List.getElem_mem _
 have hmc:∀ b,Mine (seeG false ks Γ) b → ∃ k ∈ ks,0 < Γ.cap k∧Γ.β k=b:=by
  rintro b ⟨j,h1,h2,h3⟩
  exact ⟨ks.getD j 0,hgetk j h1,h2,h3⟩
 have hm':∀ b,Mine (seeG false ks Γ) b → Mine Γ b:=fun b hb=>by
  obtain ⟨k,h1,h2,h3⟩:=hmc b hb
  exact ⟨k,hks k h1,h2,h3⟩
 have hIsub:∀ b,Γ.I b → Γ'.I b:=fun b hb=>hg.sub b (.inl hb)
 have himm:∀ b,Γ'.I b → Γ.I b∨Mine (seeG false ks Γ) b∨w.heap.size≤b:=fun b hb=>by
  rcases hg.imm b hb with (h1|⟨h1,_⟩)|h1|h1
  ·exact .inl h1
  ·cases h1
  ·exact .inr (.inl h1)
  ·exact .inr (.inr h1)
 have hs:Stay w Γ.I w' Γb.I:=⟨hg.ext.size,fun b hb hl=>hg.ext.block b hl fun hM=>by obtain ⟨k,h1,h2,h3⟩:=hmc b hM;exact hA.inv.m.off k (hks k h1) h2 (h3 ▸ hb),fun b hb=>q4 ▸ hIsub b hb⟩
 have htn:∀ i j,i < Γb.n → tau ks Γ.n i=some j → j < Γ'.n:=by
  intro i j hi ht
  have h1:=tau_some ht
  unfold rho at h1
  split at h1
  ·have:=hm.n;omega
  ·rw [q1] at hi;have:=hm.n;omega
 have hag:∀ i,i < Γ.n → i ∉ ks.drop m → Agree Γ Γb i:=by
  intro i hi hb
  refine ⟨by rw [q1];omega,?_⟩
  cases ht:tau ks Γ.n i with
  | none=>exact q2 i ht
  | some j =>
   have h1:=tau_some ht
   unfold rho at h1
   split at h1
   ·rename_i hj
    have hjm:j < m:=by
     rcases Nat.lt_or_ge j m with h|h
     ·exact h
     ·exfalso;apply hb
      rw [← h1]
      simp only [List.getD,List.getElem?_eq_getElem hj,Option.getD_some]
      have:(ks.drop m)[j - m]? = some ks[j]:=by rw [List.getElem?_drop,show m+(j - m)=j by omega,List.getElem?_eq_getElem hj]
      exact List.mem_of_getElem? this
    obtain ⟨k1,k2⟩:=hg.keep j hjm
    obtain ⟨k3,k4⟩:=q3 i j ht
    rw [k3,k4,k1,k2]
    simp only [seeG,h1,and_self]
   ·omega
 have hagr:∀ j,j < Γ'.n → AgreeR Γ' Γb (rho ks s.o.length) j:=by
  intro j hj
  rw [← hn]
  have ht:=tau_rho hnd hks j
  obtain ⟨k3,k4⟩:=q3 _ j ht
  refine ⟨?_,k3,k4⟩
  rw [q1]
  unfold rho
  split
  ·rename_i h;have:=hks _ (hgetk j h);omega
  ·have:=hm.n;omega
 have hnk:∀ i,i < Γ.n → i ∉ ks → tau ks Γ.n i=none:=by
  intro i hi hk
  unfold tau
  cases h:posK ks i with
  | none=>simp only;rw [if_pos hi]
  | some j =>
   obtain ⟨h1,h2⟩:=posK_ok h
   exact absurd (h2 ▸ hgetk j h1) hk
 have hmix:∀ i j,i < Γ.n → i ∉ ks → 0 < Γ.cap i → j < Γ'.n → 0 < Γ'.cap j → Γ.β i≠Γ'.β j:=by
  intro i j hi hik hc hj hc' he
  rcases hg.new j hj hc' with h1|h1
  ·obtain ⟨k,h2,h3,h4⟩:=hmc _ h1
   have:=hA.inv.m.sep k i (hks k h2) hi h3 hc (h4.trans he.symm)
   exact hik (this ▸ h2)
  ·have:=mine_lt hA.inv.m hi hc;omega
 refine ⟨⟨⟨hA.inv.size,hA.inv.defers,fun i q hq=>?_,⟨?_,fun i o ho=>?_,fun i i' hi hi' hc hc' he=>?_,fun i hi hc=>?_,fun b hb=>?_,⟨hm.pin.1,fun b hb=>by rw [q4];exact hm.pin.2 b hb⟩⟩⟩,by rw [q1];have:=hA.le;omega⟩,?_,⟨hg.ext.mono hm',fun b hb=>by rw [q4];exact hIsub b hb,fun i hi hc=>?_,fun b hb=>?_,fun i hi=>?_⟩⟩
 ·simp only [S.get] at hq
  rw [look_kills] at hq
  obtain ⟨q0,hq0,rfl⟩:=Option.map_eq_some_iff.1 hq
  obtain ⟨i1,i2⟩:=hA.inv.t i q0 hq0
  obtain ⟨i3,i4⟩:=RP.kills (ks.drop m) i2
  exact ⟨i1,i3.stay hs fun j hj=>hag j (i3.lt j hj) fun hx=>i4 j hx hj⟩
 ·rw [q1,putBack_length _ _ _ _ hlen,killOs_length,← hn,hm.n]
 ·rcases putBack_get _ ks (killOs (ks.drop m) s.o) os' i o hnd (fun k hk=>by rw [killOs_length,← hn];exact hks k hk) hlen ho with ⟨j,h1,o',h2,rfl⟩|⟨h1,h2,h3⟩|⟨h1,o',h2,rfl⟩
  ·have hj:j < ks.length:=(List.getElem?_eq_some_iff.1 h1).1
   have hj':j < Γ'.n:=by rw [hm.n];exact (List.getElem?_eq_some_iff.1 h2).1
   have:=(hm.ob j o' h2).ren (ρ:=rho ks s.o.length) (Γ':=Γb) (.inr fun b hb=>by rw [q4];exact hb) hagr hj'
   have e:rho ks s.o.length j=i:=by unfold rho;rw [if_pos hj];simp [List.getD,h1]
   rwa [e] at this
  ·rw [killOs_length] at h1
   rw [killOs_get] at h3
   obtain ⟨o0,h4,rfl⟩:=Option.map_eq_some_iff.1 h3
   have hi:i < Γ.n:=by rw [hn];exact h1
   refine (hA.inv.m.ob i o0 h4).stayK (ks.drop m) hs hag hi (fun hx=>h2 (List.mem_of_mem_drop hx)) fun hc=>hg.ext.block _ (mine_lt hA.inv.m hi hc) fun hM=>?_
   obtain ⟨k,g4,h5,h6⟩:=hmc _ hM
   have:=hA.inv.m.sep k i (hks k g4) hi h5 hc h6
   subst this
   exact h2 g4
  ·rw [killOs_length] at h1 h2
   have hj':ks.length+(i - s.o.length) < Γ'.n:=by rw [hm.n];exact (List.getElem?_eq_some_iff.1 h2).1
   have:=(hm.ob _ o' h2).ren (ρ:=rho ks s.o.length) (Γ':=Γb) (.inr fun b hb=>by rw [q4];exact hb) hagr hj'
   have e:rho ks s.o.length (ks.length+(i - s.o.length))=i:=by unfold rho;rw [if_neg (by omega)];omega
   rwa [e] at this
 ·cases ht:tau ks Γ.n i with
  | none =>
   obtain ⟨h1,h2⟩:=tau_none ht
   rw [(q2 i ht).2] at hc;rw [(q2 i ht).1] at he
   cases ht':tau ks Γ.n i' with
   | none =>
    obtain ⟨h1',h2'⟩:=tau_none ht'
    rw [(q2 i' ht').2] at hc';rw [(q2 i' ht').1] at he
    exact hA.inv.m.sep i i' h1 h1' hc hc' he
   | some j' =>
    rw [(q3 i' j' ht').2] at hc';rw [(q3 i' j' ht').1] at he
    exact absurd he (hmix i j' h1 h2 hc (htn i' j' hi' ht') hc')
  | some j =>
   have hj:=htn i j hi ht
   rw [(q3 i j ht).2] at hc;rw [(q3 i j ht).1] at he
   cases ht':tau ks Γ.n i' with
   | none =>
    obtain ⟨h1',h2'⟩:=tau_none ht'
    rw [(q2 i' ht').2] at hc';rw [(q2 i' ht').1] at he
    exact absurd he.symm (hmix i' j h1' h2' hc' hj hc)
   | some j' =>
    rw [(q3 i' j' ht').2] at hc';rw [(q3 i' j' ht').1] at he
    have:=hm.sep j j' hj (htn i' j' hi' ht') hc hc' he
    subst this
    exact (tau_some ht).symm.trans (tau_some ht')
 ·rw [q4]
  cases ht:tau ks Γ.n i with
  | none =>
   obtain ⟨h1,h2⟩:=tau_none ht
   rw [(q2 i ht).2] at hc;rw [(q2 i ht).1]
   intro hI
   rcases himm _ hI with h3|h3|h3
   ·exact hA.inv.m.off i h1 hc h3
   ·obtain ⟨k,h4,h5,h6⟩:=hmc _ h3
    have:=hA.inv.m.sep k i (hks k h4) h1 h5 hc h6
    exact h2 (this ▸ h4)
   ·have:=mine_lt hA.inv.m h1 hc;omega
  | some j =>
   have hj:=htn i j hi ht
   rw [(q3 i j ht).2] at hc;rw [(q3 i j ht).1]
   exact hm.off j hj hc
 ·rw [q4] at hb;exact hm.lt b hb
 ·exact hr.ren (.inr fun b hb=>by rw [q4];exact hb) fun k hk=>hagr k (hr.lt k hk)
 ·cases ht:tau ks Γ.n i with
  | none =>
   obtain ⟨h1,h2⟩:=tau_none ht
   rw [(q2 i ht).2] at hc;rw [(q2 i ht).1]
   exact .inl ⟨i,h1,hc,rfl⟩
  | some j =>
   have hj:=htn i j hi ht
   rw [(q3 i j ht).2] at hc;rw [(q3 i j ht).1]
   rcases hg.new j hj hc with h1|h1
   ·exact .inl (hm' _ h1)
   ·exact .inr h1
 ·rw [q4] at hb
  rcases himm b hb with h1|h1|h1
  ·exact .inl h1
  ·exact .inr (.inl (hm' _ h1))
  ·exact .inr (.inr h1)
 ·have h1:=hag i (by have:=hA.le;omega) fun hx=>by have:=hgv i hx;omega
  exact h1.2
def gvB (p:Nat):List Nat → Bool
 | []=>true
 | k :: r=>decide (p≤k) && gvB p r
theorem gvB_ok {p:Nat}:∀ {l:List Nat},gvB p l=true → ∀ k ∈ l,p≤k
 | [],_,k,hk=>by simp at hk
 | j :: r,h,k,hk=>by
  simp only [gvB,Bool.and_eq_true,decide_eq_true_eq] at h
  rcases List.mem_cons.1 hk with rfl|hk
  ·exact h.1
  ·exact gvB_ok h.2 k hk
section
variable {P:Program} {N p:Nat} {ops:Array Oper} {rest:List Oper} {o:Oper} {s:S} {K:S → Prop}
theorem pl_callG {f:Operand} {args:Array Operand} {tys:Array TypeId} {g:FuncId} {ds:List D} {cap:List Nat} (m:Nat) (ks:List Nat) {args':List PV} {os':List Ob} {R:PV → List Ob → Prop}
  (ho:o.op = .call ⟨.value f,args,tys⟩) (hf:s.ev f=some (.c (.fn (.func g) ds cap))) (hb:bodyOk P g=true) (hc:PCallsG m P g args' os' R)
  (hG:callG N ops s o false ks (callArgs s ds args.toList cap) args' os') (hmk:decide (m≤ks.length)=true) (hgv:gvB p (ks.drop m)=true)
  (hK:∀ r os'',R r os'' → PL P N p ops rest (S.put ⟨killTs (ks.drop m) s.t,putBack (rho ks s.o.length) (killOs (ks.drop m) s.o) ks os''⟩ o.dst (r.ren (rho ks s.o.length))) K):PL P N p ops (o :: rest) s K:=by
 obtain ⟨h1,h2,h3,h4,h5⟩:=hG
 cases e1:gd ops s o.guard with
 | none=>rw [e1] at h1;exact h1.elim
 | some b =>
  rw [e1] at h1
  simp only [isT] at h1
  subst h1
  cases e2:seePs false s.o ks (callArgs s ds args.toList cap) with
  | none=>rw [e2] at h3;exact h3.elim
  | some args'' =>
   cases e3:seeOs false s.o ks ks with
   | none=>rw [e3] at h4;exact h4.elim
   | some os2 =>
    rw [e2] at h3
    rw [e3] at h4
    simp only [Bool.and_eq_true] at h5
    have hnd:=nodB_ok h5.1
    have hkl:=ltB_ok h5.2
    intro Γ a w Q hA hQ
    have hks:∀ k ∈ ks,k < Γ.n:=fun k hk=>by rw [hA.inv.m.n];simpa using List.all_eq_true.1 hkl k hk
    obtain ⟨xs,ys,hfv,hargs⟩:=callArgs_ok hA.inv hf args
    have hseen:=lePs_ok h3 (seePs_ok (v:=false) (ks:=ks) hA.inv.m hks hargs e2)
    have hmem:=leOs_mem h4 (see_mem (v:=false) hA.inv.m hks hnd e3)
    have hkl':os'.length=ks.length:=(leOs_length h4).symm.trans (seeOs_get e3).1
    unfold wpListIn
    rw [if_pos (gd_ok e1 hA.inv)]
    refine wpIn_enter (run_enter ho hfv hb) ?_
    have:=hc _ w _ hmem hseen
    rw [Array.toArray_toList] at this
    refine this.mono ?_
    rintro e w' ⟨r,os'',Γ',y,rfl,hR,hr,hlen,hm',hgr⟩
    rw [hkl'] at hlen
    obtain ⟨g1,g2,g3⟩:=absorbG (m:=m) hA hks hnd hlen (by simpa using hmk) (gvB_ok hgv) hm' hgr hr
    exact ⟨y,rfl,hK r os'' hR _ _ w' Q ⟨g1.inv.put (dst_lt h2) g2,g1.le⟩ fun s' Γ2 a2 w2 hk hA2 hg2 hd2=>hQ s' Γ2 a2 w2 hk hA2 (g3.trans hg2) (hd2.trans (put_defers _ _ _))⟩
theorem plcG {f:Operand} {args:Array Operand} {tys:Array TypeId} {g:FuncId} {ds:List D} {cap:List Nat} (m:Nat) (ks:List Nat) {args':List PV} {os':List Ob} {R:PV → List Ob → Prop}
  (hc:PCallsG m P g args' os' R) (hG:callG N ops s o false ks (callArgs s ds args.toList cap) args' os')
  (hK:∀ r os'',R r os'' → pops P N p ops rest (S.put ⟨killTs (ks.drop m) s.t,putBack (rho ks s.o.length) (killOs (ks.drop m) s.o) ks os''⟩ o.dst (r.ren (rho ks s.o.length))) K)
  (hmk:decide (m≤ks.length)=true:=by rfl) (hgv:gvB p (ks.drop m)=true:=by rfl)
  (ho:o.op = .call ⟨.value f,args,tys⟩:=by rfl) (hf:s.ev f=some (.c (.fn (.func g) ds cap)):=by rfl) (hb:bodyOk P g=true:=by kernel_rfl):PL P N p ops (o :: rest) s K :=
 pl_callG m ks ho hf hb hc hG hmk hgv fun r os'' h=>pl_of_pops (hK r os'' h)
end
attribute [push_cast] killTs killOs killO
end Go.Proofs.YtgijigkfmbiifaaGreatDoor
