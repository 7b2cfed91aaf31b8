/- What the program computes, and the plain laws of it, part 36. -/
import Derived.Lib.ItoaNum
import Derived.WideKeyEntry
import Derived.Test.YthhfpcbpiphfiaaGreatDoorR35
namespace Go.Proofs.YthhfpcbpiphfiaaGreatDoor
attribute [local irreducible] PL QL PWPr PCalls Weak RetK Kontr PA
open Go.RowKit
open IntWalk renaming iteOmega → iO, toNatUp → tN
set_option linter.unusedVariables false
set_option linter.unusedSimpArgs false
set_option maxRecDepth 20000
def mx2 (a b:Int):Int:=if b > a then b else a
def mx4 (a b c d:Int):Int:=mx2 (mx2 (mx2 a b) c) d
theorem mx4_le {a b c d n:Int}:mx4 a b c d≤n ↔ a≤n∧b≤n∧c≤n∧d≤n:=by
 unfold mx4 mx2
 split<;>split<;>split<;>omega
section
variable {P:Program} {N p:Nat} {ops:Array Oper} {rest:List Oper} {o:Oper} {s:S} {K:S → Prop}
theorem pl_max4 {x1 x2 x3 x4:Operand} {ts:Array TypeId} {a b c d:Int} (ho:o.op = .call ⟨.builtin .max,#[x1,x2,x3,x4],ts⟩) (hg:gd ops s o.guard=some true) (h1:s.ev x1=some (.c (.v (.int .i64 a)))) (h2:s.ev x2=some (.c (.v (.int .i64 b)))) (h3:s.ev x3=some (.c (.v (.int .i64 c)))) (h4:s.ev x4=some (.c (.v (.int .i64 d)))) (hd:dstOk N o.dst)
  (hK:PL P N p ops rest (s.put o.dst (.c (.v (.int .i64 (mx4 a b c d))))) K):PL P N p ops (o :: rest) s K:=by
 refine pl_same (q:=.c (.v (.int .i64 (mx4 a b c d)))) hg (fun Γ a' w hI=>?_) hd hK
 have e1:=S.ev_ok h1 hI
 have e2:=S.ev_ok h2 hI
 have e3:=S.ev_ok h3 hI
 have e4:=S.ev_ok h4 hI
 exact ⟨_,⟨rfl,rfl⟩,fun w' _=>by simp [execOp,ho,resolve,invoke,builtin,Builtin.max_,Builtin.max2,e1.1,e2.1,e3.1,e4.1,mx4,mx2]⟩
end
def fewC (c:Cfg):Bool:=decide (c.blocked.length≤128) && decide (c.off.length≤128) && decide (c.keep.length≤128) && decide (c.extra.length≤128)
def chkC (c:Cfg):Int:=if (newB c.modules && fewC c)=true then 0 else 200
structure FitC (c:Cfg):Prop where
 m:c.modules.length≤9223372036854775807
 f:∀ m ∈ c.modules,ModFit m
 b:c.blocked.length≤9223372036854775807
 o:c.off.length≤9223372036854775807
 k:c.keep.length≤9223372036854775807
 x:c.extra.length≤9223372036854775807
theorem fewC_iff (c:Cfg):fewC c=true ↔ c.blocked.length≤128∧c.off.length≤128∧c.keep.length≤128∧c.extra.length≤128:=by
 unfold fewC
 simp only [Bool.and_eq_true,decide_eq_true_eq]
 exact ⟨fun ⟨⟨⟨a,b⟩,c⟩,d⟩=>⟨a,b,c,d⟩,fun ⟨a,b,c,d⟩=>⟨⟨⟨a,b⟩,c⟩,d⟩⟩
set_option maxHeartbeats 4000000 in
theorem acheck_pure (c:Cfg) (h:FitC c):PCalls Tryz.prog 8 [.agg c.e] [] fun r os=>r = .c (.v (.int .i64 (chkC c)))∧os=[]:=by
 have hk:=knew_pure c.modules h.m h.f
 have hb1:=h.b
 have hb2:=h.o
 have hb3:=h.k
 have hb4:=h.x
 refine pcalls_of Tryz.func8 rfl (by simp [Tryz.ntmps8]) ?_
 rw [Tryz.ntmps8,Tryz.results8]
 push_cast [iO,tN]
 have cB:CutB 5 [28]:=trivial
 cases hn:newB c.modules with
 | false =>
  have hR:chkC c=200:=by unfold chkC;rw [hn];rfl
  have hk2:PCalls Tryz.prog 15 [.c (.sl 6 (c.modules.map Mod.d))] [] fun r os=>r = .two (.c (.v (.pointer none))) (.c (.v (.int .i64 54)))∧os=[]:=hk.mono fun r os hr=>by rw [hn] at hr;simpa using hr
  repeat' (first |  ((refine plc [] (hk2) ?_ ?_;push_cast [iO,tN];rintro r os ⟨rfl,rfl⟩;push_cast [iO,tN]))  | ((first|refine pC ?_|refine pQC ?_|refine pU ?_);push_cast [iO,tN])|(refine pif (fun h=>?_) (fun h=>?_)<;>first|exact pN h|push_cast [iO,tN]))
  (refine retK_of [] ?_;push_cast [iO,tN,hR])
 | true =>
  have hk2:PCalls Tryz.prog 15 [.c (.sl 6 (c.modules.map Mod.d))] [] fun r os=>r = .two (.c (.ptr 0 0)) (.c (.v (.int .i64 0)))∧os=kerO ⟨[],c.modules,[],[],0⟩:=hk.mono fun r os hr=>by rw [hn] at hr;simpa using hr
  by_cases hf:fewC c=true
  ·have hR:chkC c=0:=by unfold chkC;rw [hn,hf];rfl
   rw [fewC_iff] at hf
   have hx:¬ (128:Int) < mx4 (c.blocked.length:Int) (c.off.length:Int) (c.keep.length:Int) (c.extra.length:Int):=by
    have:=mx4_le (a:=(c.blocked.length:Int)) (b:=(c.off.length:Int)) (c:=(c.keep.length:Int)) (d:=(c.extra.length:Int)) (n:=128)
    omega
   repeat' (first|((refine plc [] (hk2) ?_ ?_;push_cast [iO,tN,hx];rintro r os ⟨rfl,rfl⟩;push_cast [iO,tN,hx]))|(refine pl_max4 rfl (by push_cast [iO,tN,hx]) rfl rfl rfl rfl (by push_cast [iO,tN,hx]) (pl_of_pops ?_);push_cast [iO,tN,hx])|((first|refine pC ?_|refine pQC ?_|refine pU ?_);push_cast [iO,tN,hx])|(refine pif (fun h=>?_) (fun h=>?_)<;>first|exact pN h|push_cast [iO,tN,hx]))
   (refine retK_of [] ?_;push_cast [iO,tN,hR])
  ·have hR:chkC c=200:=by unfold chkC;rw [Bool.eq_false_iff.2 hf,Bool.and_false];rfl
   rw [fewC_iff] at hf
   have hx:(128:Int) < mx4 (c.blocked.length:Int) (c.off.length:Int) (c.keep.length:Int) (c.extra.length:Int):=by
    have:=mx4_le (a:=(c.blocked.length:Int)) (b:=(c.off.length:Int)) (c:=(c.keep.length:Int)) (d:=(c.extra.length:Int)) (n:=128)
    omega
   repeat' (first|((refine plc [] (hk2) ?_ ?_;push_cast [iO,tN,hx];rintro r os ⟨rfl,rfl⟩;push_cast [iO,tN,hx]))|(refine pl_max4 rfl (by push_cast [iO,tN,hx]) rfl rfl rfl rfl (by push_cast [iO,tN,hx]) (pl_of_pops ?_);push_cast [iO,tN,hx])|((first|refine pC ?_|refine pQC ?_|refine pU ?_);push_cast [iO,tN,hx])|(refine pif (fun h=>?_) (fun h=>?_)<;>first|exact pN h|push_cast [iO,tN,hx]))
   (refine retK_of [] ?_;push_cast [iO,tN,hR])
set_option maxHeartbeats 4000000 in
theorem rcheck18_pure (c:Cfg) (h:FitC c):PCalls Tryz.prog 9 [.agg c.e] [] fun r os=>r = .c (.v (.int .i64 (chkC c)))∧os=[]:=by
 have hk:=rmodules_pure c.modules h.m h.f
 have hb1:=h.b
 have hb2:=h.o
 have hb3:=h.k
 have hb4:=h.x
 refine pcalls_of Tryz.func9 rfl (by simp [Tryz.ntmps9]) ?_
 rw [Tryz.ntmps9,Tryz.results9]
 push_cast [iO,tN]
 have cB:CutB 3 [30]:=trivial
 cases hn:newB c.modules with
 | false =>
  have hR:chkC c=200:=by unfold chkC;rw [hn];rfl
  rw [hn] at hk
  repeat' (first |  ((refine plc [] (hk) ?_ ?_;push_cast [iO,tN];rintro r os ⟨rfl,rfl⟩;push_cast [iO,tN]))  | ((first|refine pC ?_|refine pQC ?_|refine pU ?_);push_cast [iO,tN])|(refine pif (fun h=>?_) (fun h=>?_)<;>first|exact pN h|push_cast [iO,tN]))
  (refine retK_of [] ?_;push_cast [iO,tN,hR])
 | true =>
  rw [hn] at hk
  by_cases h1:c.blocked.length≤128
  case neg =>
   have h1':(128:Int) < (c.blocked.length:Int):=by omega
   have hR:chkC c=200:=by
    unfold chkC
    rw [if_neg]
    rw [Bool.and_eq_true,fewC_iff]
    omega
   repeat' (first|((refine plc [] (hk) ?_ ?_;push_cast [iO,tN,h1'];rintro r os ⟨rfl,rfl⟩;push_cast [iO,tN,h1']))|((first|refine pC ?_|refine pQC ?_|refine pU ?_);push_cast [iO,tN,h1'])|(refine pif (fun h=>?_) (fun h=>?_)<;>first|exact pN h|push_cast [iO,tN,h1']))
   (refine retK_of [] ?_;push_cast [iO,tN,hR])
  have h1':¬ (128:Int) < (c.blocked.length:Int):=by omega
  by_cases h2:c.off.length≤128
  case neg =>
   have h2':(128:Int) < (c.off.length:Int):=by omega
   have hR:chkC c=200:=by
    unfold chkC
    rw [if_neg]
    rw [Bool.and_eq_true,fewC_iff]
    omega
   repeat' (first|((refine plc [] (hk) ?_ ?_;push_cast [iO,tN,h1',h2'];rintro r os ⟨rfl,rfl⟩;push_cast [iO,tN,h1',h2']))|((first|refine pC ?_|refine pQC ?_|refine pU ?_);push_cast [iO,tN,h1',h2'])|(refine pif (fun h=>?_) (fun h=>?_)<;>first|exact pN h|push_cast [iO,tN,h1',h2']))
   (refine retK_of [] ?_;push_cast [iO,tN,hR])
  have h2':¬ (128:Int) < (c.off.length:Int):=by omega
  by_cases h3:c.keep.length≤128
  case neg =>
   have h3':(128:Int) < (c.keep.length:Int):=by omega
   have hR:chkC c=200:=by
    unfold chkC
    rw [if_neg]
    rw [Bool.and_eq_true,fewC_iff]
    omega
   repeat' (first|((refine plc [] (hk) ?_ ?_;push_cast [iO,tN,h1',h2',h3'];rintro r os ⟨rfl,rfl⟩;push_cast [iO,tN,h1',h2',h3']))|((first|refine pC ?_|refine pQC ?_|refine pU ?_);push_cast [iO,tN,h1',h2',h3'])|(refine pif (fun h=>?_) (fun h=>?_)<;>first|exact pN h|push_cast [iO,tN,h1',h2',h3']))
   (refine retK_of [] ?_;push_cast [iO,tN,hR])
  have h3':¬ (128:Int) < (c.keep.length:Int):=by omega
  by_cases h4:c.extra.length≤128
  case neg =>
   have h4':(128:Int) < (c.extra.length:Int):=by omega
   have hR:chkC c=200:=by
    unfold chkC
    rw [if_neg]
    rw [Bool.and_eq_true,fewC_iff]
    omega
   repeat' (first|((refine plc [] (hk) ?_ ?_;push_cast [iO,tN,h1',h2',h3',h4'];rintro r os ⟨rfl,rfl⟩;push_cast [iO,tN,h1',h2',h3',h4']))|((first|refine pC ?_|refine pQC ?_|refine pU ?_);push_cast [iO,tN,h1',h2',h3',h4'])|(refine pif (fun h=>?_) (fun h=>?_)<;>first|exact pN h|push_cast [iO,tN,h1',h2',h3',h4']))
   (refine retK_of [] ?_;push_cast [iO,tN,hR])
  have h4':¬ (128:Int) < (c.extra.length:Int):=by omega
  have hR:chkC c=0:=by unfold chkC;rw [if_pos (by rw [Bool.and_eq_true,fewC_iff];exact ⟨hn,h1,h2,h3,h4⟩)]
  repeat' (first|((refine plc [] (hk) ?_ ?_;push_cast [iO,tN,h1',h2',h3',h4'];rintro r os ⟨rfl,rfl⟩;push_cast [iO,tN,h1',h2',h3',h4']))|((first|refine pC ?_|refine pQC ?_|refine pU ?_);push_cast [iO,tN,h1',h2',h3',h4'])|(refine pif (fun h=>?_) (fun h=>?_)<;>first|exact pN h|push_cast [iO,tN,h1',h2',h3',h4']))
  (refine retK_of [] ?_;push_cast [iO,tN,hR])
set_option maxRecDepth 20000
set_option maxHeartbeats 2000000 in
theorem wmods_own (L:List Int) (k:Nat) (hk:k < 2000) (hL:∀ x ∈ L,-9223372036854775808≤x∧x≤9223372036854775807) (hl:L.length≤9223372036854775807) :
  PCalls Tryz.prog 13 [.c (.ptr 0 0)] [tape L k] fun r os=>∃ l:List Mod,l.Sublist wmL∧r = .c (.own 1 l.length)∧os=[tape L (k+8),.arr 36 6 (l.map Mod.d)]:=by
 refine pcalls_of Tryz.func13 rfl (by simp [Tryz.ntmps13]) ?_
 rw [Tryz.ntmps13,Tryz.results13]
 push_cast [iO,tN]
 repeat' (first|((first|refine pG ?_|refine pQ ?_|refine pU ?_);push_cast [iO,tN])|(refine pif (fun h=>?_) (fun h=>?_)<;>first|exact pN h|push_cast [iO,tN]))
 refine pwp_weak (weak_rows 3 (wmL.map Mod.d) rfl (by simp [wmL,Mod.d,leRows,leDs,leD,isEmp,strD])) ?_
 refine pwp_weak (weak_adopt 4 36 6 (by omega) (by push_cast [iO,tN])) ?_
 push_cast [iO,tN]
 refine pwp_loop2 (α:=Nat × List Mod) (fun x=>x.1≤8∧x.2.Sublist (wmL.take x.1)) (fun x=>⟨[(5,.c (.v (.int .i64 x.1))),(4,.c (.own 1 x.2.length)),(3,.c (.sl 6 (wmL.map Mod.d))),(0,.c (.ptr 0 0))],[tape L (k+x.1),.arr 36 6 (x.2.map Mod.d)]⟩) (fun x=>8 - x.1) (0,[]) ⟨by simp,by simp⟩ (by (refine weak_fg ?_;push_cast [iO,tN]);try omega) ?_
 rintro ⟨i,l⟩ ⟨hi,hs⟩
 simp only at hi hs
 have h8:wmL.length=8:=rfl
 have hll:=hs.length_le
 rw [List.length_take] at hll
 by_cases hlt:i < 8
 ·obtain ⟨hb,hc⟩:=fold_bds (tapeAt L (k+i)) 4 (by omega)
  obtain ⟨v,hv⟩:∃ v,fold (tapeAt L (k+i)) 4=v:=⟨_,rfl⟩
  rw [hv] at hb hc
  have hst:wmL.take (i+1)=wmL.take i++[wmL[i]]:=List.take_succ_eq_append_getElem (by omega)
  by_cases h0:0 < v
  all_goals repeat' (first|(refine plc [0] (next_pure L (k+i) 4 (by omega) (by omega) hL hl) ?_ ?_;push_cast [iO,tN,hv,h8];rintro r os ⟨rfl,rfl⟩;push_cast [iO,tN,hv,h8])|((first|refine pG ?_|refine pQ ?_|refine pU ?_);push_cast [iO,tN,hv,h8])|(refine pif (fun h=>?_) (fun h=>?_)<;>first|exact pN h|push_cast [iO,tN,hv,h8]))
  ·refine ⟨(i+1,l++[wmL.getD i default]),⟨by simp only;omega,?_⟩,by (refine weak_fg ?_;push_cast [iO,tN]);try omega,by simp only;omega⟩
   simp only [hst]
   rw [getD_lt wmL (by omega)]
   exact hs.append (List.Sublist.refl _)
  ·exact ⟨(i+1,l),⟨by simp only;omega,by simp only [hst];exact hs.trans (List.sublist_append_left _ _)⟩,by (refine weak_fg ?_;push_cast [iO,tN]);try omega,by simp only;omega⟩
 ·have h:i=8:=by omega
  subst h
  have he:=List.take_of_length_le (l:=l.map Mod.d) (i:=l.length) (by simp)
  repeat' (first|((first|refine pG ?_|refine pQ ?_|refine pU ?_);push_cast [iO,tN,h8])|(refine pif (fun h=>?_) (fun h=>?_)<;>first|exact pN h|push_cast [iO,tN,h8]))
  (refine retK_of [0,1] ?_;push_cast [iO,tN])
  exact ⟨_,_,leP_refl _,leOs_refl _,l,hs.trans (List.take_sublist _ _),rfl,rfl⟩
def Cfg.eo5 (c:Cfg):List E:=[.own 1 c.modules.length,.own 2 c.blocked.length,.own 3 c.off.length,.own 4 c.keep.length,.own 5 c.extra.length]
def cfgOs (T:Ob) (c:Cfg):List Ob:=[T,.arr 36 6 (c.modules.map Mod.d),.arr 9 1 (c.blocked.map strD),.arr 9 1 (c.off.map strD),.arr 9 1 (c.keep.map strD),.arr 38 2 (c.extra.map Ext2.d)]
attribute [push_cast] Cfg.eo5 cfgOs
set_option maxHeartbeats 8000000 in
theorem wconfig_own (L:List Int) (k:Nat) (hk:k < 1000) (hL:∀ x ∈ L,-9223372036854775808≤x∧x≤9223372036854775807) (hl:L.length≤9223372036854775807) :
  PCalls Tryz.prog 5 [.c (.ptr 0 0)] [tape L k] fun r os=>∃ (c:Cfg) (k':Nat),((OkCfg c∧WCfg c)∧k'≤k+90)∧r = .agg c.eo5∧os=cfgOs (tape L k') c:=by
 have hfo:∀ (p m:Nat),0 < m → m≤10 → ∃ n:Nat,fold (tapeAt L p) m=n∧n < m:=fun p m h0 h1=>by
  obtain ⟨hb,hc⟩:=fold_bds (tapeAt L p) m (by omega)
  exact ⟨(fold (tapeAt L p) m).toNat,by omega,by omega⟩
 refine pcalls_of Tryz.func5 rfl (by simp [Tryz.ntmps5]) ?_
 rw [Tryz.ntmps5,Tryz.results5]
 push_cast [iO,tN]
 have cB:CutB 8 [14,28,42,56]:=trivial
 repeat' (first |  ((refine plc [0] (wmods_own L k (by omega) hL hl) ?_ ?_;push_cast [iO,tN];rintro r os ⟨mods,hmods,rfl,rfl⟩;push_cast [iO,tN]))  | ((first|refine pC ?_|refine pQC ?_|refine pU ?_);push_cast [iO,tN])|(refine pif (fun h=>?_) (fun h=>?_)<;>first|exact pN h|push_cast [iO,tN]))
 have hml:=hmods.length_le
 rw [show wmL.length=8 from rfl] at hml
 obtain ⟨n1,hn1,hb1⟩:=hfo (k+8) 3 (by omega) (by omega)
 have hx1:=next_pure L (k+8) 3 (by omega) (by omega) hL hl
 rw [show ((3:Nat):Int)=3 from rfl] at hn1
 rw [hn1] at hx1
 repeat' (first |  ((refine plc [0] (hx1) ?_ ?_;push_cast [iO,tN];rintro r os ⟨rfl,rfl⟩;push_cast [iO,tN]))  | ((first|refine pC ?_|refine pQC ?_|refine pU ?_);push_cast [iO,tN])|(refine pif (fun h=>?_) (fun h=>?_)<;>first|exact pN h|push_cast [iO,tN]))
 refine pwp_weak (weak_adopt_box 3 1 9 1 (by omega) 26 _ (by push_cast [iO,tN];rfl) (by push_cast [iO,tN])) ?_
 push_cast [iO,tN]
 refine pwp_weak (weak_adopt_box 3 2 9 1 (by omega) 26 _ (by push_cast [iO,tN];rfl) (by push_cast [iO,tN])) ?_
 push_cast [iO,tN]
 refine pwp_weak (weak_adopt_box 3 3 9 1 (by omega) 26 _ (by push_cast [iO,tN];rfl) (by push_cast [iO,tN])) ?_
 push_cast [iO,tN]
 refine pwp_weak (weak_adopt_box 3 4 38 2 (by omega) 26 _ (by push_cast [iO,tN];rfl) (by push_cast [iO,tN])) ?_
 push_cast [iO,tN]
 (apply pwp_loop3 (α:=Nat × List ByteArray) 8 [14,28,42,56] (fun z=>[(4,.c (.v (.int .i64 (z.1:Int))))]) (fun z=>[(0,tape L ((k+8)+1+z.2.length)),(3,.box 26 [.own 2 mods.length,.own 4 z.2.length,.own 5 0,.own 6 0,.own 7 0]),(4,.arr 9 1 (z.2.map strD))]) (fun z=>z.1+z.2.length=n1) (fun z=>z.1) ((n1,[]));(focus ((try push_cast [iO,tN]);rfl));(focus exact (by simp));(focus ((refine weak_fg ?_;try push_cast [iO,tN]))))
 rintro ⟨j,x1⟩ hj
 simp only at hj ⊢
 push_cast [iO,tN]
 by_cases hj0:0 < j
 ·have ho:=one_pure L ((k+8)+1+x1.length) wl1 (by omega) (by decide) (by decide) hL hl
  obtain ⟨s,hs⟩:∃ s,pick L ((k+8)+1+x1.length) wl1=s:=⟨_,rfl⟩
  rw [hs] at ho
  simp only [wl1,List.map_cons,List.map_nil,strD] at ho
  have hj1:(j:Int) - 1=((j - 1:Nat):Int):=by omega
  have hj2:(0:Int) < (j:Int):=by omega
  repeat' (first|(refine hidR 5 ?_)|((first|refine pC ?_|refine pQC ?_|refine pU ?_);push_cast [iO,tN,hj2])|(refine pif (fun h=>?_) (fun h=>?_)<;>first|exact pN h|push_cast [iO,tN,hj2]))
  refine unhid ?_
  (refine pwp_cut 8 [14,28,42,56] ?_;apply pwp_drawn_to;(focus kernel_rfl);(focus (simp only [List.length_cons,List.length_nil,Nat.reduceAdd];(repeat' first|((refine plc [0] (ho) ?_ ?_;push_cast [iO,tN];rintro r os ⟨rfl,rfl⟩;push_cast [iO,tN]))|((first|refine pah 0 ?_|refine pah 2 ?_|refine pah 7 ?_);push_cast [iO,tN])|(refine pad ?_;first|with_reducible exact weak_cutS 8 [14,28,42,56] _|(refine weak_fg ?_;push_cast [iO,tN]))|((first|refine pas [1] ?_|refine pas [3] ?_|refine pas [4] ?_|refine pas [5] ?_|refine pas [6] ?_|refine pas [8] ?_);push_cast [iO,tN])|((first|refine pas [1,3] ?_|refine pas [1,4] ?_|refine pas [1,5] ?_);push_cast [iO,tN];refine ⟨?_,?_⟩));done));push_cast [iO,tN])
  exact ⟨(j - 1,x1++[s]),by simp only [List.length_append,List.length_cons,List.length_nil];omega,by (refine weak_fg ?_;push_cast [iO,tN,hj1]);try omega,by simp only;omega⟩
 ·have hj3:¬ (0:Int) < (j:Int):=by omega
  repeat' (first|((first|refine pC ?_|refine pQC ?_|refine pU ?_);push_cast [iO,tN,hj3])|(refine pif (fun h=>?_) (fun h=>?_)<;>first|exact pN h|push_cast [iO,tN,hj3]))
  obtain ⟨n2,hn2,hb2⟩:=hfo (k+8+1+x1.length) 2 (by omega) (by omega)
  have hx2:=next_pure L (k+8+1+x1.length) 2 (by omega) (by omega) hL hl
  rw [show ((2:Nat):Int)=2 from rfl] at hn2
  rw [hn2] at hx2
  repeat' (first |  ((refine plc [0] (hx2) ?_ ?_;push_cast [iO,tN];rintro r os ⟨rfl,rfl⟩;push_cast [iO,tN]))  | ((first|refine pC ?_|refine pQC ?_|refine pU ?_);push_cast [iO,tN])|(refine pif (fun h=>?_) (fun h=>?_)<;>first|exact pN h|push_cast [iO,tN]))
  (apply pwp_loop3 (α:=Nat × List ByteArray) 8 [14,28,42,56] (fun z=>[(5,.c (.v (.int .i64 (z.1:Int))))]) (fun z=>[(0,tape L ((k+8+1+x1.length)+1+z.2.length)),(3,.box 26 [.own 2 mods.length,.own 4 x1.length,.own 5 z.2.length,.own 6 0,.own 7 0]),(5,.arr 9 1 (z.2.map strD))]) (fun z=>z.1+z.2.length=n2) (fun z=>z.1) ((n2,[]));(focus ((try push_cast [iO,tN]);rfl));(focus exact (by simp));(focus ((refine weak_fg ?_;try push_cast [iO,tN]))))
  rintro ⟨j,x2⟩ hj
  simp only at hj ⊢
  push_cast [iO,tN]
  by_cases hj0:0 < j
  ·have ho:=one_pure L ((k+8+1+x1.length)+1+x2.length) wl2 (by omega) (by decide) (by decide) hL hl
   obtain ⟨s,hs⟩:∃ s,pick L ((k+8+1+x1.length)+1+x2.length) wl2=s:=⟨_,rfl⟩
   rw [hs] at ho
   simp only [wl2,List.map_cons,List.map_nil,strD] at ho
   have hj1:(j:Int) - 1=((j - 1:Nat):Int):=by omega
   have hj2:(0:Int) < (j:Int):=by omega
   repeat' (first|(refine hidR 9 ?_)|((first|refine pC ?_|refine pQC ?_|refine pU ?_);push_cast [iO,tN,hj2])|(refine pif (fun h=>?_) (fun h=>?_)<;>first|exact pN h|push_cast [iO,tN,hj2]))
   refine unhid ?_
   (refine pwp_cut 8 [14,28,42,56] ?_;apply pwp_drawn_to;(focus kernel_rfl);(focus (simp only [List.length_cons,List.length_nil,Nat.reduceAdd];(repeat' first|((refine plc [0] (ho) ?_ ?_;push_cast [iO,tN];rintro r os ⟨rfl,rfl⟩;push_cast [iO,tN]))|((first|refine pah 0 ?_|refine pah 2 ?_|refine pah 7 ?_);push_cast [iO,tN])|(refine pad ?_;first|with_reducible exact weak_cutS 8 [14,28,42,56] _|(refine weak_fg ?_;push_cast [iO,tN]))|((first|refine pas [1] ?_|refine pas [3] ?_|refine pas [4] ?_|refine pas [5] ?_|refine pas [6] ?_|refine pas [8] ?_);push_cast [iO,tN])|((first|refine pas [1,3] ?_|refine pas [1,4] ?_|refine pas [1,5] ?_);push_cast [iO,tN];refine ⟨?_,?_⟩));done));push_cast [iO,tN])
   exact ⟨(j - 1,x2++[s]),by simp only [List.length_append,List.length_cons,List.length_nil];omega,by (refine weak_fg ?_;push_cast [iO,tN,hj1]);try omega,by simp only;omega⟩
  ·have hj3:¬ (0:Int) < (j:Int):=by omega
   repeat' (first|((first|refine pC ?_|refine pQC ?_|refine pU ?_);push_cast [iO,tN,hj3])|(refine pif (fun h=>?_) (fun h=>?_)<;>first|exact pN h|push_cast [iO,tN,hj3]))
   obtain ⟨n3,hn3,hb3⟩:=hfo (k+8+1+x1.length+1+x2.length) 2 (by omega) (by omega)
   have hx3:=next_pure L (k+8+1+x1.length+1+x2.length) 2 (by omega) (by omega) hL hl
   rw [show ((2:Nat):Int)=2 from rfl] at hn3
   rw [hn3] at hx3
   repeat' (first |  ((refine plc [0] (hx3) ?_ ?_;push_cast [iO,tN];rintro r os ⟨rfl,rfl⟩;push_cast [iO,tN]))  | ((first|refine pC ?_|refine pQC ?_|refine pU ?_);push_cast [iO,tN])|(refine pif (fun h=>?_) (fun h=>?_)<;>first|exact pN h|push_cast [iO,tN]))
   (apply pwp_loop3 (α:=Nat × List ByteArray) 8 [14,28,42,56] (fun z=>[(6,.c (.v (.int .i64 (z.1:Int))))]) (fun z=>[(0,tape L ((k+8+1+x1.length+1+x2.length)+1+z.2.length)),(3,.box 26 [.own 2 mods.length,.own 4 x1.length,.own 5 x2.length,.own 6 z.2.length,.own 7 0]),(6,.arr 9 1 (z.2.map strD))]) (fun z=>z.1+z.2.length=n3) (fun z=>z.1) ((n3,[]));(focus ((try push_cast [iO,tN]);rfl));(focus exact (by simp));(focus ((refine weak_fg ?_;try push_cast [iO,tN]))))
   rintro ⟨j,x3⟩ hj
   simp only at hj ⊢
   push_cast [iO,tN]
   by_cases hj0:0 < j
   ·have ho:=one_pure L ((k+8+1+x1.length+1+x2.length)+1+x3.length) wl3 (by omega) (by decide) (by decide) hL hl
    obtain ⟨s,hs⟩:∃ s,pick L ((k+8+1+x1.length+1+x2.length)+1+x3.length) wl3=s:=⟨_,rfl⟩
    rw [hs] at ho
    simp only [wl3,List.map_cons,List.map_nil,strD] at ho
    have hj1:(j:Int) - 1=((j - 1:Nat):Int):=by omega
    have hj2:(0:Int) < (j:Int):=by omega
    repeat' (first|(refine hidR 13 ?_)|((first|refine pC ?_|refine pQC ?_|refine pU ?_);push_cast [iO,tN,hj2])|(refine pif (fun h=>?_) (fun h=>?_)<;>first|exact pN h|push_cast [iO,tN,hj2]))
    refine unhid ?_
    (refine pwp_cut 8 [14,28,42,56] ?_;apply pwp_drawn_to;(focus kernel_rfl);(focus (simp only [List.length_cons,List.length_nil,Nat.reduceAdd];(repeat' first|((refine plc [0] (ho) ?_ ?_;push_cast [iO,tN];rintro r os ⟨rfl,rfl⟩;push_cast [iO,tN]))|((first|refine pah 0 ?_|refine pah 2 ?_|refine pah 7 ?_);push_cast [iO,tN])|(refine pad ?_;first|with_reducible exact weak_cutS 8 [14,28,42,56] _|(refine weak_fg ?_;push_cast [iO,tN]))|((first|refine pas [1] ?_|refine pas [3] ?_|refine pas [4] ?_|refine pas [5] ?_|refine pas [6] ?_|refine pas [8] ?_);push_cast [iO,tN])|((first|refine pas [1,3] ?_|refine pas [1,4] ?_|refine pas [1,5] ?_);push_cast [iO,tN];refine ⟨?_,?_⟩));done));push_cast [iO,tN])
    exact ⟨(j - 1,x3++[s]),by simp only [List.length_append,List.length_cons,List.length_nil];omega,by (refine weak_fg ?_;push_cast [iO,tN,hj1]);try omega,by simp only;omega⟩
   ·have hj3:¬ (0:Int) < (j:Int):=by omega
    repeat' (first|((first|refine pC ?_|refine pQC ?_|refine pU ?_);push_cast [iO,tN,hj3])|(refine pif (fun h=>?_) (fun h=>?_)<;>first|exact pN h|push_cast [iO,tN,hj3]))
    obtain ⟨n4,hn4,hb4⟩:=hfo (k+8+1+x1.length+1+x2.length+1+x3.length) 3 (by omega) (by omega)
    have hx4:=next_pure L (k+8+1+x1.length+1+x2.length+1+x3.length) 3 (by omega) (by omega) hL hl
    rw [show ((3:Nat):Int)=3 from rfl] at hn4
    rw [hn4] at hx4
    repeat' (first |  ((refine plc [0] (hx4) ?_ ?_;push_cast [iO,tN];rintro r os ⟨rfl,rfl⟩;push_cast [iO,tN]))  | ((first|refine pC ?_|refine pQC ?_|refine pU ?_);push_cast [iO,tN])|(refine pif (fun h=>?_) (fun h=>?_)<;>first|exact pN h|push_cast [iO,tN]))
    (apply pwp_loop3 (α:=Nat × List Ext2) 8 [14,28,42,56] (fun z=>[(7,.c (.v (.int .i64 (z.1:Int))))]) (fun z=>[(0,tape L ((k+8+1+x1.length+1+x2.length+1+x3.length)+1+2 * z.2.length)),(3,.box 26 [.own 2 mods.length,.own 4 x1.length,.own 5 x2.length,.own 6 x3.length,.own 7 z.2.length]),(7,.arr 38 2 (z.2.map Ext2.d))]) (fun z=>z.1+z.2.length=n4∧∀ y ∈ z.2,y.name.size≤10) (fun z=>z.1) ((n4,[]));(focus ((try push_cast [iO,tN]);rfl));(focus exact ⟨by simp,by simp⟩);(focus ((refine weak_fg ?_;try push_cast [iO,tN]))))
    rintro ⟨j,x4⟩ ⟨hj,hz⟩
    simp only at hj hz ⊢
    push_cast [iO,tN]
    by_cases hj0:0 < j
    ·have ho:=one_pure L ((k+8+1+x1.length+1+x2.length+1+x3.length)+1+2 * x4.length) wl4 (by omega) (by decide) (by decide) hL hl
     have ho2:=one_pure L ((k+8+1+x1.length+1+x2.length+1+x3.length)+1+2 * x4.length+1) wl5 (by omega) (by decide) (by decide) hL hl
     have hpz:(pick L ((k+8+1+x1.length+1+x2.length+1+x3.length)+1+2 * x4.length) wl4).size≤10:=pick_size (by decide) (by decide)
     obtain ⟨s,hs⟩:∃ s,pick L ((k+8+1+x1.length+1+x2.length+1+x3.length)+1+2 * x4.length) wl4=s:=⟨_,rfl⟩
     obtain ⟨s2,hs2⟩:∃ s,pick L ((k+8+1+x1.length+1+x2.length+1+x3.length)+1+2 * x4.length+1) wl5=s:=⟨_,rfl⟩
     rw [hs] at ho hpz
     rw [hs2] at ho2
     simp only [wl4,wl5,List.map_cons,List.map_nil,strD] at ho ho2
     have hj1:(j:Int) - 1=((j - 1:Nat):Int):=by omega
     have hj2:(0:Int) < (j:Int):=by omega
     repeat' (first|(refine hidR 17 ?_)|((first|refine pC ?_|refine pQC ?_|refine pU ?_);push_cast [iO,tN,hj2])|(refine pif (fun h=>?_) (fun h=>?_)<;>first|exact pN h|push_cast [iO,tN,hj2]))
     refine unhid ?_
     (refine pwp_cut 8 [14,28,42,56] ?_;apply pwp_drawn_to;(focus kernel_rfl);(focus (simp only [List.length_cons,List.length_nil,Nat.reduceAdd];(repeat' first|((refine plc [0] (ho) ?_ ?_;push_cast [iO,tN];rintro r os ⟨rfl,rfl⟩;push_cast [iO,tN]))|((refine plc [0] (ho2) ?_ ?_;push_cast [iO,tN];rintro r os ⟨rfl,rfl⟩;push_cast [iO,tN]))|((first|refine pah 0 ?_|refine pah 2 ?_|refine pah 5 ?_|refine pah 8 ?_|refine pah 11 ?_);push_cast [iO,tN])|(refine pad ?_;first|with_reducible exact weak_cutS 8 [14,28,42,56] _|(refine weak_fg ?_;push_cast [iO,tN]))|((first|refine pas [1] ?_|refine pas [3] ?_|refine pas [4] ?_|refine pas [6] ?_|refine pas [7] ?_|refine pas [9] ?_|refine pas [10] ?_|refine pas [12] ?_);push_cast [iO,tN])|((first|refine pas [1,3] ?_|refine pas [1,4] ?_|refine pas [1,6] ?_|refine pas [1,7] ?_|refine pas [1,9] ?_|refine pas [3,6] ?_|refine pas [4,6] ?_);push_cast [iO,tN];refine ⟨?_,?_⟩)|((first|refine pas [1,3,6] ?_|refine pas [1,4,6] ?_);push_cast [iO,tN];refine ⟨?_,?_,?_⟩));done));push_cast [iO,tN])
     exact ⟨(j - 1,x4++[⟨s,s2⟩]),⟨by simp only [List.length_append,List.length_cons,List.length_nil];omega,fun y hy=>(List.mem_append.1 hy).elim (hz y) fun h=>by rw [List.mem_singleton.1 h];exact hpz⟩,by (refine weak_fg ?_;push_cast [iO,tN,hj1,Nat.mul_add,Ext2.d]);try omega,by simp only;omega⟩
    ·have hj3:¬ (0:Int) < (j:Int):=by omega
     repeat' (first|((first|refine pC ?_|refine pQC ?_|refine pU ?_);push_cast [iO,tN,hj3])|(refine pif (fun h=>?_) (fun h=>?_)<;>first|exact pN h|push_cast [iO,tN,hj3]))
     (refine retK_of [0,2,4,5,6,7] ?_;push_cast [iO,tN])
     exact ⟨.agg (Cfg.eo5 ⟨mods,x1,x2,x3,x4⟩),cfgOs (tape L ((k+8+1+x1.length+1+x2.length+1+x3.length)+1+2 * x4.length)) ⟨mods,x1,x2,x3,x4⟩,by push_cast [iO,tN],by push_cast [iO,tN],⟨mods,x1,x2,x3,x4⟩,(k+8+1+x1.length+1+x2.length+1+x3.length)+1+2 * x4.length,⟨⟨wm_ok hmods (by simp only;omega),⟨hmods,by simp only;omega,by simp only;omega,by simp only;omega,hz⟩⟩,by omega⟩,rfl,rfl⟩
end Go.Proofs.YthhfpcbpiphfiaaGreatDoor
