/- What the program computes, and the plain laws of it, part 44. -/
import Derived.Lib.AppendZerosOnto
import Derived.Lib.Overlaps
import Derived.Laws.Externs
import Derived.Laws.IdiomCopy
import Derived.Test.YtmbbkfffcflfcaaGreatDoorS32
namespace Go.Proofs.YtmbbkfffcflfcaaGreatDoor
open Go.RowKit
open IntWalk renaming iteOmega → O, toNatUp → U
set_option linter.unusedVariables false
set_option linter.unusedSimpArgs false
set_option maxRecDepth 20000
theorem infoIn:(Tryz.prog.info? 53).map (fun i=>(i.zero,i.size,i.bytes))=some (some (Value.agg #[.int .i64 0,.int .i64 0,.string ByteArray.empty,.string ByteArray.empty,.string ByteArray.empty,.string ByteArray.empty,.string ByteArray.empty,.int .i64 0,.int .i64 0,.slice none 0 0]),10,136):=by kernel_rfl
theorem sizeIn:(Tryz.prog.info? 53).map (·.size)=some 10:=by kernel_rfl
theorem shape_of_cell {w:World} {a:Addr} {v:Value} (h:w.cell? a=some v):∃ t k,w.shape? a.block=some (t,k+1):=by
 unfold World.cell? at h
 unfold World.shape?
 split at h
 ·rename_i c t fz hh
  split at h
  ·cases h
  ·have:=(Array.getElem?_eq_some_iff.1 h).1
   exact ⟨t,c.size - 1,by simp only [Option.some.injEq,Prod.mk.injEq,true_and];omega⟩
 ·cases h
theorem run_overlaps_data {P:Program} (w:World) (tS tR e:TypeId) (ht:P.underlying tS=some (.slice e)) (size:Nat) (hz:∀ w,(Go.sizeOf e).run P w = .ok size w)
  (a b:Addr) (la ca lb cb:Nat) (hne:a.block≠b.block) (tA tB:TypeId) (kA kB:Nat)
  (hsa:w.shape? a.block=some (tA,kA+1)) (hsb:w.shape? b.block=some (tB,kB+1)) (hfb:w.frozen? b=false) (hfe:w.frozen? { block:=b.block,off:=kB+1 }=false) :
  (Extern.SlicesOverlaps.overlaps #[tS,tS] #[tR] #[.slice (some a) la ca,.slice (some b) lb cb]).run P w = .ok (.bool false) w:=by
 have hnb:(a.block != b.block)=true:=by simpa using hne
 have hnb':(a.block == b.block)=false:=by simpa using hne
 change Sem.run P (α:=Value) (do
  let some t:=(#[tS,tS]:Array TypeId)[0]? | stuck "slices.overlaps: no parameter types"
  let .slice elem ← underlying t|stuck "slices.overlaps: slice type expected"
  let size ← sizeOf elem
  match (some a:Option Addr),(some b:Option Addr) with
  | some a,some b =>
   if la=0∨lb=0∨size=0 then pure (Value.bool false)
   else if a.block != b.block && (← frozen a) && (← frozen b) then unsupported .addressObserved
   else do
    if a.block != b.block then do
     noView a;noView b
     if ← mayBeOne a b then return Value.bool ((← choose (.extern "sameAddr.stringBytes" 2)) == 1)
    pure (Value.bool (a.block == b.block && a.off < b.off+lb * size && b.off < a.off+la * size))
  | _,_=>pure (Value.bool false)) w=_
 by_cases h0:la=0∨lb=0∨size=0
 ·simp [run_underlying ht,hz,h0]
 ·cases hfa:w.frozen? a<;>cases hfk:w.frozen? { block:=a.block,off:=kA+1 } <;>
   simp [run_underlying ht,hz,h0,hnb,hnb',frozen,noView,viewAt,mayBeOne,stringish,shape,Sem.run,hsa,hsb,hfa,hfb,hfe,hfk]
theorem ovl_in (w:World) (b vb vo bo m vc lb cb:Nat) (cur:Array Value) (v0:Value) (hb:Blk w b 53 cur) (hv:w.cell? ⟨vb,vo,none⟩=some v0) (hne:vb≠b) (h0:0 < cur.size) :
  (callFunc 174 #[.slice (some ⟨vb,vo,none⟩) m vc,.slice (some ⟨b,bo,none⟩) lb cb]).run Tryz.prog w = .ok (.value (.bool false)) w:=by
 obtain ⟨i,hi,hz,hs,hb'⟩:=info_parts infoIn
 have hz':∀ w,(Go.sizeOf 53).run Tryz.prog w = .ok 10 w:=fun w=>by simp [sizeOf,typeInfo,hi,hs]
 obtain ⟨tA,kA,e1⟩:=shape_of_cell hv
 have e2:w.shape? b=some (53,cur.size - 1+1):=by unfold World.shape?;rw [hb];simp only [Option.some.injEq,Prod.mk.injEq,true_and];omega
 rw [run_callFunc_extern Tryz.func174 (by kernel_rfl) (by kernel_rfl) (by kernel_rfl) (e:=Extern.SlicesOverlaps.overlaps #[39,39] #[4]) (by kernel_rfl),
  run_overlaps_data w 39 4 53 Tryz.underlying39 10 hz' ⟨vb,vo,none⟩ ⟨b,bo,none⟩ m vc lb cb hne _ _ _ _ e1 e2 (hb.frozen _) (hb.frozen _)]
 rfl
set_option maxHeartbeats 4000000 in
set_option maxRecDepth 100000 in
theorem ins_room (w:World) (b vb vo n c vc i:Nat) (cur:Array Value) (vs:List Value) (hb:Blk w b 53 cur) (hv:∀ j v,vs[j]? = some v → w.cell? ⟨vb,vo+j,none⟩=some v) (hvs:vs.length=10) (hvb:vb < w.heap.size) (hne:vb≠b) (hi:i < n) (hn:n+1≤c) (hc:c≤9223372036854775807)
  (hs:cur.size=c * 10) (h1:∀ v ∈ cur.toList.take (n * 10),v.oneCell'=true) (h2:∀ v ∈ vs,v.oneCell'=true) :
  Calls Tryz.prog 135 #[.slice (some ⟨b,0,none⟩) n c,.int .i64 i,.slice (some ⟨vb,vo,none⟩) 1 vc] w fun e w' =>
   e = .returned (.slice (some ⟨b,0,none⟩) (n+1) c)∧Blk w' b 53 (over (over cur.toList ((i+1) * 10) ((cur.toList.take (n * 10)).drop (i * 10))) (i * 10) vs).toArray∧Ext (· = b) w w':=by
 have hov:=fun lb cb=>ovl_in w b vb vo ((i+1) * 10) 1 vc lb cb cur vs[0] hb (by have:=hv 0 vs[0] (List.getElem?_eq_getElem (by omega));simpa using this) hne (by omega)
 obtain ⟨cs,hcs⟩:∃ cs,cs=(cur.toList.take (n * 10)).drop (i * 10):=⟨_,rfl⟩
 have hcl:cs.length=(n - i) * 10:=by rw [hcs,List.length_drop,List.length_take,Array.length_toList,hs];omega
 have hsrc:∀ j v,cs[j]? = some v → w.cell? ⟨b,i * 10+j,none⟩=some v:=fun j v h=>by
  rw [hb.cell]
  rw [hcs,List.getElem?_drop,List.getElem?_take] at h
  split at h
  ·rw [Array.getElem?_toList] at h;exact h
  ·cases h
 have h1':∀ v ∈ cs,v.oneCell'=true:=fun v h=>h1 v (by rw [hcs] at h;exact List.mem_of_mem_drop h)
 have hvl:vs.length=1 * 10:=by omega
 rw [← hcs]
 have hf1:(i+1) * 10+cs.length≤cur.size:=by rw [hcl,hs,← Nat.add_mul];exact Nat.mul_le_mul_right _ (by omega)
 have hf2:i * 10+vs.length≤(over cur.toList ((i+1) * 10) cs).toArray.size:=by
  have:(i+1) * 10≤c * 10:=Nat.mul_le_mul_right _ (by omega)
  simp [over]
  omega
 have HB:=Lib.hid hb
 have HV:=Lib.hid hv
 have HS:=Lib.hid hsrc
 have H1:=Lib.hid h1'
 have H2:=Lib.hid h2
 have HCL:=Lib.hid hcl
 have HVL:=Lib.hid hvl
 have HF1:=Lib.hid hf1
 have HF2:=Lib.hid hf2
 have H10:=Lib.hid hs
 clear hb hv hsrc h1' h2 h1 hs hcl hvl hf1 hf2 hcs
 have hw1:IntKind.i64.wrap ((i:Int)+1)=(i:Int)+1:=by rw [IntKind.wrap_i64];omega
 have htn:((i:Int)+1).toNat=i+1:=by omega
 have hb1:(0:Int)≤(i:Int)+1:=by omega
 have hb3:(i:Int)+1≤(n:Int)+1:=by omega
 have hb5:(i:Int)≤(n:Int)+1:=by omega
 have hb2:¬ (c=i+1):=by omega
 have hb4:¬ (c=i):=by omega
 go_enter Tryz.func135,Tryz.ntmps135
 go_wp2_with (simp only [hov])
 refine region_tail 8 (by kernel_rfl) (by kernel_rfl) ?_
 simp only [List.take_succ_cons,List.take_zero,List.drop_succ_cons,List.drop_zero]
 repeat still_step
 refine wpStill_nil ?_
 refine wpList_copy_sz rfl (.tmp 73) (.tmp 76) 39 39 rfl 53 10 Tryz.underlying39 sizeIn _ _ _ _ _ _ rfl rfl b ((i+1) * 10) (n - i) cur 53 cs HB.out.drew (by simp only [Nat.min_def];split<;>omega) HCL.out (fun _=>rfl)
  (fun _=>⟨b,i * 10,rfl,fun j v h=>HS.out j v h⟩) HF1.out H1.out ?_
 intro w1 hB1 hE1
 have hv1:∀ j v,vs[j]? = some v → w1.cell? ⟨vb,vo+j,none⟩=some v:=fun j v h=>by rw [hE1.cell (p:=⟨vb,vo+j,none⟩) hvb hne];exact HV.out j v h
 have HB1:=Lib.hid hB1
 have HE1:=Lib.hid hE1
 have HV1:=Lib.hid hv1
 clear hB1 hE1 hv1
 have hm1:1=Nat.min 1 (n+1 - i):=by simp only [Nat.min_def];split<;>omega
 have HM:=Lib.hid hm1
 clear hm1
 go_wp2_with (refine wpList_copy_sz rfl (.tmp 80) (.tmp 81) 39 39 rfl 53 10 Tryz.underlying39 sizeIn _ _ _ _ _ _ rfl rfl b (i * 10) 1 _ 53 vs HB1.out HM.out HVL.out (fun _=>rfl) (fun _=>⟨vb,vo,rfl,HV1.out⟩) HF2.out H2.out ?_;intro w2 hB2 hE2;have HB2:=Lib.hid hB2;have HE2:=Lib.hid hE2;clear hB2 hE2)
 go_ret
 exact ⟨rfl,HB2.out,((Ext.refl _ w).drew.trans HE1.out).trans HE2.out⟩
set_option maxHeartbeats 4000000 in
set_option maxRecDepth 100000 in
theorem ins_grow (w:World) (b vb vo n c vc i:Nat) (cur:Array Value) (vs:List Value) (hb:Blk w b 53 cur) (hv:∀ j v,vs[j]? = some v → w.cell? ⟨vb,vo+j,none⟩=some v) (hvs:vs.length=10) (hvb:vb < w.heap.size) (hi:i < n) (hn:n=c) (hc:n≤1000000000)
  (hs:cur.size=c * 10) (h1:∀ v ∈ cur.toList.take (n * 10),v.oneCell'=true) (h2:∀ v ∈ vs,v.oneCell'=true) :
  Calls Tryz.prog 135 #[.slice (some ⟨b,0,none⟩) n c,.int .i64 i,.slice (some ⟨vb,vo,none⟩) 1 vc] w fun e w'=>∃ G new,
   e = .returned (.slice (some ⟨w.heap.size,0,none⟩) (n+1) G)∧n+1≤G∧G≤maxLen∧new.size=G * 10∧Blk w' w.heap.size 53 new∧new.toList.take ((n+1) * 10)=(cur.toList.take (n * 10)).take (i * 10)++(vs++(cur.toList.take (n * 10)).drop (i * 10))∧Ext No w w':=by
 subst hn
 obtain ⟨i0,hi0,hz0,hzs,hzb⟩:=info_parts infoIn
 obtain ⟨cs,hcs⟩:∃ cs,cs=(cur.toList.take (n * 10)).drop (i * 10):=⟨_,rfl⟩
 obtain ⟨hd,hhd⟩:∃ hd,hd=(cur.toList.take (n * 10)).take (i * 10):=⟨_,rfl⟩
 have hcl:cs.length=(n - i) * 10:=by rw [hcs,List.length_drop,List.length_take,Array.length_toList,hs];omega
 have hhl:hd.length=i * 10:=by rw [hhd,List.length_take,List.length_take,Array.length_toList,hs];omega
 have hat:∀ k l j v,((cur.toList.take k).drop l)[j]? = some v → w.cell? ⟨b,l+j,none⟩=some v:=fun k l j v h=>by
  rw [hb.cell]
  rw [List.getElem?_drop,List.getElem?_take] at h
  split at h
  ·rw [Array.getElem?_toList] at h;exact h
  ·cases h
 have hsrc:∀ j v,cs[j]? = some v → w.cell? ⟨b,i * 10+j,none⟩=some v:=fun j v h=>hat _ _ j v (by rw [hcs] at h;exact h)
 have hold:(Builtin.firstCells i0.size i (.slice (some ⟨b,0,none⟩) i n)).run Tryz.prog w.drew = .ok hd.toArray w.drew:=by
  rw [hzs]
  refine run_firstCells_some w.drew 10 i ⟨b,0,none⟩ i n hd hhl (fun j v hj=>?_)
  rw [Addr.add_lit]
  refine hat (n * 10) 0 j v ?_
  rw [hhd,List.getElem?_take] at hj
  split at hj
  ·rw [List.drop_zero];exact hj
  ·cases hj
 have hkk:(n:Int)+1 - (i:Int)=((n+1 - i:Nat):Int):=by omega
 have hik:i+(n+1 - i)=n+1:=by omega
 have hrz:∀ ty,(Builtin.append_ #[39,3] ty #[.slice (some ⟨b,0,none⟩) i n,.int .i64 ((n:Int)+1 - (i:Int))]).run Tryz.prog w =
   .ok (.slice (some ⟨w.heap.size,0,none⟩) (n+1) (grownCap w (n+1) n 53)) (w.drew.alloc (.cells (hd.toArray++Builtin.zeroCells (Value.agg #[.int .i64 0,.int .i64 0,.string ByteArray.empty,.string ByteArray.empty,.string ByteArray.empty,.string ByteArray.empty,.string ByteArray.empty,.int .i64 0,.int .i64 0,.slice none 0 0]).cells (n+1 - i)++Builtin.zeroCells (Value.agg #[.int .i64 0,.int .i64 0,.string ByteArray.empty,.string ByteArray.empty,.string ByteArray.empty,.string ByteArray.empty,.string ByteArray.empty,.int .i64 0,.int .i64 0,.slice none 0 0]).cells (grownCap w (n+1) n 53 - (n+1))) 53)):=fun ty=>by
  have h:=Lib.run_append_grow_zeros w 39 3 ty 53 i0 _ .i64 .i64 Tryz.underlying39 Tryz.underlying3 hi0 hz0 (some ⟨b,0,none⟩) i n hd hold (n+1 - i) (by omega) (by rw [hzs];decide) (by omega) (by omega) (by rw [hzb];omega) (by rw [hzb,hik];exact growslice_fits (by omega) (by omega))
  rw [hik] at h
  rw [hkk]
  exact h
 have hGn:n+1≤grownCap w (n+1) n 53:=grownCap_ge w _ _ _
 have hGm:grownCap w (n+1) n 53≤maxLen:=grownCap_le_maxLen w (n+1) n 53 (by unfold maxLen;omega)
 obtain ⟨G,hG⟩:∃ G,G=grownCap w (n+1) n 53:=⟨_,rfl⟩
 rw [← hG] at hrz hGn hGm
 generalize hROW:hd.toArray++Builtin.zeroCells (Value.agg #[.int .i64 0,.int .i64 0,.string ByteArray.empty,.string ByteArray.empty,.string ByteArray.empty,.string ByteArray.empty,.string ByteArray.empty,.int .i64 0,.int .i64 0,.slice none 0 0]).cells (n+1 - i)++Builtin.zeroCells (Value.agg #[.int .i64 0,.int .i64 0,.string ByteArray.empty,.string ByteArray.empty,.string ByteArray.empty,.string ByteArray.empty,.string ByteArray.empty,.int .i64 0,.int .i64 0,.slice none 0 0]).cells (G - (n+1))=ROW at hrz
 have hRs:ROW.size=G * 10:=by
  rw [← hROW]
  simp only [Array.size_append,size_zeroCells,List.size_toArray,hhl]
  show i * 10+(n+1 - i) * 10+(G - (n+1)) * 10=G * 10
  rw [← Nat.add_mul,← Nat.add_mul]
  congr 1
  omega
 have hRt:ROW.toList.take (i * 10)=hd:=by
  rw [← hROW,Array.toList_append,Array.toList_append,List.append_assoc]
  exact List.take_left' hhl
 have hf1:i * 10+vs.length≤ROW.size:=by
  have:(i+1) * 10≤G * 10:=Nat.mul_le_mul_right _ (by omega)
  rw [hRs]
  omega
 have hvl:vs.length=1 * 10:=by omega
 have hf2:(i+1) * 10+cs.length≤(over ROW.toList (i * 10) vs).toArray.size:=by
  have:(n+1) * 10≤G * 10:=Nat.mul_le_mul_right _ (by omega)
  have e:(i+1) * 10+(n - i) * 10=(n+1) * 10:=by rw [← Nat.add_mul];congr 1;omega
  have hlen:(over ROW.toList (i * 10) vs).length=ROW.size:=by simp [over];omega
  rw [List.size_toArray,hlen,hcl,hRs]
  omega
 have hfin:(over (over ROW.toList (i * 10) vs) ((i+1) * 10) cs).take ((n+1) * 10)=hd++(vs++cs):=by
  have e1:(over ROW.toList (i * 10) vs).take ((i+1) * 10)=hd++vs:=by
   unfold over
   rw [hRt,← List.append_assoc]
   exact List.take_left' (by rw [List.length_append,hhl,hvl];omega)
  unfold over at e1 ⊢
  rw [e1,List.append_assoc,← List.append_assoc,← List.append_assoc]
  rw [List.append_assoc hd]
  refine List.take_left' ?_
  simp only [List.length_append,hhl,hvl,hcl]
  have e:(n - i)+(i+1)=n+1:=by omega
  rw [← e,Nat.add_mul,Nat.add_mul]
  omega
 have h1':∀ v ∈ cs,v.oneCell'=true:=fun v h=>h1 v (by rw [hcs] at h;exact List.mem_of_mem_drop h)
 have hbN:b < w.heap.size:=hb.lt
 have hns:(over (over ROW.toList (i * 10) vs) ((i+1) * 10) cs).toArray.size=G * 10:=by
  have hlen:(over ROW.toList (i * 10) vs).length=ROW.size:=by simp [over];omega
  rw [List.size_toArray] at hf2
  rw [List.size_toArray,← hRs,← hlen]
  generalize over ROW.toList (i * 10) vs=Z at hf2
  simp [over]
  omega
 have hm1:1=Nat.min 1 (n+1 - i):=by simp only [Nat.min_def];split<;>omega
 have hm2:n - i=Nat.min (n - i) (n - i):=by simp only [Nat.min_def];split<;>omega
 have HM1:=Lib.hid hm1
 have HM2:=Lib.hid hm2
 have HB:=Lib.hid hb
 have HV:=Lib.hid hv
 have HS:=Lib.hid hsrc
 have H1:=Lib.hid h1'
 have H2:=Lib.hid h2
 have HCL:=Lib.hid hcl
 have HVL:=Lib.hid hvl
 have HF1:=Lib.hid hf1
 have HF2:=Lib.hid hf2
 have HFN:=Lib.hid hfin
 have HNS:=Lib.hid hns
 have HRS:=Lib.hid hRs
 have HRZ:=Lib.hid hrz
 have HGM:=Lib.hid hGm
 have HCS:=Lib.hid hcs
 have HHD:=Lib.hid hhd
 clear hm1 hm2 hb hv hsrc h1' h2 h1 hs hcl hvl hf1 hf2 hfin hns hRs hrz hGm hcs hhd hold hat hG hROW hRt hhl hkk hik hi0 hz0 hzs hzb
 have hw1:IntKind.i64.wrap ((i:Int)+1)=(i:Int)+1:=by rw [IntKind.wrap_i64];omega
 have hw2:IntKind.i64.wrap ((n:Int)+1)=(n:Int)+1:=by rw [IntKind.wrap_i64];omega
 have htn:((i:Int)+1).toNat=i+1:=by omega
 have hb1:(0:Int)≤(i:Int)+1:=by omega
 have hb3:(i:Int)+1≤(n:Int)+1:=by omega
 have hb5:(i:Int)≤(n:Int)+1:=by omega
 have hb7:(i:Int)≤(n:Int):=by omega
 have hb6:(n:Int) < (n:Int)+1:=by omega
 have hGi:¬ (G=i):=by omega
 have hGim:¬ (G=i+1):=by omega
 have hci:¬ (n=i):=by omega
 go_enter Tryz.func135,Tryz.ntmps135
 go_wp2_with (first
  | (at_builtin;refine Lib.wpList_append_run _ rfl _ _ _ _ rfl _ _ rfl rfl _ _ (HRZ.out _) ?_)
  | (refine wpList_copy_sz rfl (.tmp 43) (.tmp 44) 39 39 rfl 53 10 Tryz.underlying39 sizeIn _ _ _ _ _ _ rfl rfl w.heap.size (i * 10) 1 ROW 53 vs (Blk.new w 53 ROW).drew HM1.out HVL.out (fun _=>rfl) (fun _=>⟨vb,vo,rfl,fun j v h=>(World.cell?_alloc_past (w:=w) (.cells ROW 53) vb (vo+j) hvb).trans (HV.out j v h)⟩) HF1.out H2.out ?_;intro w2 hB2 hE2;have HB2:=Lib.hid hB2;have HE2:=Lib.hid hE2;clear hB2 hE2))
 refine region_tail 8 (by kernel_rfl) (by kernel_rfl) ?_
 simp only [List.take_succ_cons,List.take_zero,List.drop_succ_cons,List.drop_zero]
 repeat still_step
 refine wpStill_nil ?_
 refine wpList_copy_sz rfl (.tmp 50) (.tmp 53) 39 39 rfl 53 10 Tryz.underlying39 sizeIn _ _ _ _ _ _ rfl rfl w.heap.size ((i+1) * 10) (n - i) _ 53 cs HB2.out.drew HM2.out HCL.out (fun _=>rfl)
  (fun _=>⟨b,i * 10,rfl,fun j v h=>by
   have e1:=HE2.out.cell (p:=⟨b,i * 10+j,none⟩) (by simp;omega) (by simp;omega)
   have e2:=World.cell?_alloc_past (w:=w) (.cells ROW 53) b (i * 10+j) hbN
   exact (e1.trans e2).trans (HS.out j v h)⟩) HF2.out H1.out ?_
 intro w3 hB3 hE3
 go_wp2
 go_ret
 refine ⟨G,rfl,hGn,HGM.out,_,HNS.out,hB3,?_,?_⟩
 ·have:=HFN.out
  rw [HCS.out,HHD.out] at this
  rw [HCS.out]
  exact this
 ·exact (((Ext.refl No w).alloc _).drew.trans_new HE2.out (fun k hk=>.inr (by omega))).drew.trans_new hE3 (fun k hk=>.inr (by omega))
theorem over_ins (cur vs cs:List Value) (i n:Nat) (hi:i < n) (hn:(n+1) * 10≤cur.length) (hvs:vs.length=10) (hcs:cs.length=(n - i) * 10) :
  (over (over cur ((i+1) * 10) cs) (i * 10) vs).take ((n+1) * 10)=cur.take (i * 10)++(vs++cs)∧(over (over cur ((i+1) * 10) cs) (i * 10) vs).length=cur.length:=by
 have e0:(n - i)+(i+1)=n+1:=by omega
 have e1:(i+1) * 10+cs.length=(n+1) * 10:=by rw [hcs,← e0,Nat.add_mul (n - i)];omega
 have e2:i * 10+10=(i+1) * 10:=by omega
 unfold over
 rw [hvs,e1,e2]
 have a1:(cur.take ((i+1) * 10)++(cs++cur.drop ((n+1) * 10))).take (i * 10)=cur.take (i * 10):=by
  rw [List.take_append_of_le_length (by rw [List.length_take];omega),List.take_take,Nat.min_eq_left (by omega)]
 have a2:(cur.take ((i+1) * 10)++(cs++cur.drop ((n+1) * 10))).drop ((i+1) * 10)=cs++cur.drop ((n+1) * 10):=List.drop_left' (by rw [List.length_take];omega)
 rw [a1,a2]
 constructor
 ·rw [← List.append_assoc,← List.append_assoc,List.append_assoc (cur.take (i * 10))]
  exact List.take_left' (by simp only [List.length_append,List.length_take,hvs];omega)
 ·simp only [List.length_append,List.length_take,List.length_drop,hvs]
  omega
set_option maxHeartbeats 1000000 in
theorem insertD_end (l:List Dev) (x:Dev) (hl:l.length≤1000000) :
  PCalls Tryz.prog 135 [.c (.own 0 l.length),.c (.v (.int .i64 ((l.length:Int)))),.c (.sl 10 [Dev.d x])] [.arr 53 10 (l.map Dev.d)] fun r os =>
   (r = .c (.own 0 (l.length+1))∧os=[.arr 53 10 ((l++[x]).map Dev.d)])∨(r = .c (.own 1 (l.length+1))∧os=[.arr 53 10 (l.map Dev.d),.arr 53 10 ((l++[x]).map Dev.d)]):=by
 refine pcalls_of Tryz.func135 rfl (by simp [Tryz.ntmps135]) ?_
 rw [Tryz.ntmps135,Tryz.results135]
 push_cast [O,U]
 by_cases h0:l.length=0
 ·have h0':=eq_true h0
  repeat' ((first|(refine pl_app2 (e:=53) (sz:=10) (by':=136) (rows:=l.map Dev.d) (ys:=[Dev.d x]) 0 rfl (by push_cast [O,U,h0',if_true]) (by push_cast [O,U,h0',if_true]) (by push_cast [O,U,h0',if_true]) (by push_cast [O,U,h0',if_true]) (by omega) (by push_cast [O,U,h0',if_true]) (by push_cast [O,U,h0',if_true]) (by push_cast [O,U,h0',if_true]) (by push_cast [O,U,h0',if_true]) (by simp) (by push_cast [O,U,h0',if_true];omega) (by push_cast [O,U,h0',if_true];omega) ?_ ?_<;>(refine pl_of_pops ?_;push_cast [O,U,h0',if_true]))|refine pG ?_|refine pQ ?_|refine pU ?_|refine pif ?_ ?_<;>intro h<;>try exact pN h)<;>push_cast [O,U,h0',if_true])
  all_goals first|(refine retK_of [0] ?_;push_cast [O,U];exact ⟨_,_,leP_refl _,leOs_refl _,.inl ⟨rfl,rfl⟩⟩)|(refine retK_of [0,1] ?_;push_cast [O,U];exact ⟨_,_,leP_refl _,leOs_refl _,.inr ⟨rfl,rfl⟩⟩)
 ·have h0':=eq_false h0
  repeat' ((first|(refine pl_app2 (e:=53) (sz:=10) (by':=136) (rows:=l.map Dev.d) (ys:=[Dev.d x]) 0 rfl (by push_cast [O,U,h0',if_false]) (by push_cast [O,U,h0',if_false]) (by push_cast [O,U,h0',if_false]) (by push_cast [O,U,h0',if_false]) (by omega) (by push_cast [O,U,h0',if_false]) (by push_cast [O,U,h0',if_false]) (by push_cast [O,U,h0',if_false]) (by push_cast [O,U,h0',if_false]) (by simp) (by push_cast [O,U,h0',if_false];omega) (by push_cast [O,U,h0',if_false];omega) ?_ ?_<;>(refine pl_of_pops ?_;push_cast [O,U,h0',if_false]))|refine pG ?_|refine pQ ?_|refine pU ?_|refine pif ?_ ?_<;>intro h<;>try exact pN h)<;>push_cast [O,U,h0',if_false])
  all_goals first|(refine retK_of [0] ?_;push_cast [O,U];exact ⟨_,_,leP_refl _,leOs_refl _,.inl ⟨rfl,rfl⟩⟩)|(refine retK_of [0,1] ?_;push_cast [O,U];exact ⟨_,_,leP_refl _,leOs_refl _,.inr ⟨rfl,rfl⟩⟩)
set_option maxHeartbeats 1000000 in
theorem insertD_pure (l:List Dev) (x:Dev) (i:Nat) (hi:i≤l.length) (hl:l.length≤1000000) :
  PCalls Tryz.prog 135 [.c (.own 0 l.length),.c (.v (.int .i64 i)),.c (.sl 10 [Dev.d x])] [.arr 53 10 (l.map Dev.d)] fun r os =>
   (r = .c (.own 0 (l.length+1))∧os=[.arr 53 10 ((l.take i++x :: l.drop i).map Dev.d)])∨(r = .c (.own 1 (l.length+1))∧os=[.arr 53 10 (l.map Dev.d),.arr 53 10 ((l.take i++x :: l.drop i).map Dev.d)]):=by
 rcases Nat.eq_or_lt_of_le hi with rfl|hi
 ·have:=insertD_end l x hl
  rw [List.take_length,List.drop_length]
  exact this
 unfold PCalls
 intro Γ w xs hm hx
 obtain ⟨y,m1,rfl,hy,hx⟩:=All2.cons_l.1 hx
 obtain ⟨y2,m2,rfl,hy2,hx⟩:=All2.cons_l.1 hx
 obtain ⟨y3,m3,rfl,hy3,hx⟩:=All2.cons_l.1 hx
 rw [All2.nil_l] at hx
 subst hx
 obtain ⟨rfl,_⟩:=hy2
 have hy3':RD w Γ.I (.sl 10 [Dev.d x]) y3:=hy3
 rw [rd_sl] at hy3'
 obtain ⟨A,c3,vs,rfl,hc3,⟨hvl,hvat⟩,hr1,hrx⟩:=hy3'
 obtain ⟨vb,vo,rfl,hIv,hvb,hvc⟩:=hvat (by simp)
 have hvl':vs.length=10:=by simpa using hvl
 have hrow:∀ r ∈ l.map Dev.d,r.length=10:=fun r hr=>by obtain ⟨z,_,rfl⟩:=List.mem_map.1 hr;rfl
 have hn1:Γ.n=1:=by rw [hm.n];rfl
 have hk:0 < Γ.n:=by omega
 rcases hy.2 with ⟨_,_,h0⟩|⟨hc,rfl,hle⟩
 ·omega
 obtain ⟨g1,g2,g3,g4⟩:=hm.ob 0 _ rfl
 obtain ⟨cur,hb,hs,hle2,hmx,hrd⟩:=g4 hc
 rw [List.length_map] at hrd
 have hne:vb≠Γ.β 0:=fun e=>hm.off 0 hk hc (e ▸ hIv)
 have h1:=rd_one hrd
 have h2:∀ v ∈ vs,v.oneCell'=true:=rd_one hrx
 have hfl:∀ k,k≤l.length → (l.map Dev.d).flatten.take (k * 10)=((l.take k).map Dev.d).flatten∧(l.map Dev.d).flatten.drop (k * 10)=((l.drop k).map Dev.d).flatten:=fun k hkk=>by
  rw [take_rows hrow (by rw [List.length_map];exact hkk),drop_rows hrow (by rw [List.length_map];exact hkk),List.map_take,List.map_drop]
  exact ⟨rfl,rfl⟩
 have hins:((l.take i++x :: l.drop i).map Dev.d).flatten=(l.map Dev.d).flatten.take (i * 10)++([Dev.d x].flatten++(l.map Dev.d).flatten.drop (i * 10)):=by
  rw [(hfl i (by omega)).1,(hfl i (by omega)).2]
  simp [List.flatten_append]
 have hlen:(l.take i++x :: l.drop i).length=l.length+1:=by simp;omega
 have hcz:cur.toList.length=Γ.cap 0 * 10:=by rw [Array.length_toList,hs]
 have hle2':l.length≤Γ.cap 0:=by simpa using hle2
 have hcsl:((cur.toList.take (l.length * 10)).drop (i * 10)).length=(l.length - i) * 10:=by
  have:l.length * 10≤Γ.cap 0 * 10:=Nat.mul_le_mul_right _ hle2'
  rw [List.length_drop,List.length_take,hcz]
  omega
 have htt:(cur.toList.take (l.length * 10)).take (i * 10)=cur.toList.take (i * 10):=by rw [List.take_take,Nat.min_eq_left (Nat.mul_le_mul_right _ (by omega))]
 have hrd2:All2 (RD w Γ.I) ((l.take i++x :: l.drop i).map Dev.d).flatten ((cur.toList.take (l.length * 10)).take (i * 10)++(vs++(cur.toList.take (l.length * 10)).drop (i * 10))):=by
  rw [hins]
  exact (hrd.take _).append (hrx.append (hrd.drop _))
 by_cases hroom:l.length+1≤Γ.cap 0
 ·refine (ins_room w (Γ.β 0) vb vo l.length (Γ.cap 0) c3 i cur vs hb hvc hvl' hvb hne hi hroom (by simpa [maxLen] using hmx) hs h1 h2).mono ?_
  rintro e w' ⟨rfl,hB,hE⟩
  have hs':Stay w Γ.I w' Γ.I:=⟨hE.size,fun b hb' hl=>hE.block b hl fun e=>hm.off 0 hk hc (e ▸ hb'),fun _ h=>h⟩
  obtain ⟨o1,o2⟩:=over_ins cur.toList vs ((cur.toList.take (l.length * 10)).drop (i * 10)) i l.length hi (by rw [hcz];exact Nat.mul_le_mul_right _ hroom) hvl' hcsl
  have hro:RO w' Γ 0 (.arr 53 10 ((l.take i++x :: l.drop i).map Dev.d)):=by
   refine ⟨fun r hr=>by obtain ⟨z,_,rfl⟩:=List.mem_map.1 hr;rfl,by decide,fun h=>absurd h (by omega),fun _=>⟨_,hB,by rw [List.size_toArray,o2,hcz],by rw [List.length_map,hlen];exact hroom,hmx,?_⟩⟩
   rw [List.length_map,hlen,o1,← htt]
   exact hrd2.mono fun d y h=>RD.stay hs' d y h
  exact ⟨_,_,Γ,_,rfl,.inl ⟨rfl,rfl⟩,⟨hk,.inr ⟨hc,rfl,hroom⟩⟩,by simp,(hm.set_ hk hc hE _ hro).1,grow_set hk hc hE⟩
 ·refine (ins_grow w (Γ.β 0) vb vo l.length (Γ.cap 0) c3 i cur vs hb hvc hvl' hvb hi (by omega) (by omega) hs h1 h2).mono ?_
  rintro e w' ⟨gc,new,rfl,q1,q2,q3,q4,q5,hE⟩
  have hS:=Same.of_ext hE
  have hst:=hS.stay Γ.I
  have hro:RO w' (Γ.push w.heap.size gc) Γ.n (.arr 53 10 ((l.take i++x :: l.drop i).map Dev.d)):=by
   refine ⟨fun r hr=>by obtain ⟨z,_,rfl⟩:=List.mem_map.1 hr;rfl,by decide,fun h=>?_,fun _=>⟨new,?_,?_,?_,?_,?_⟩⟩
   ·simp only [G.push,upd_same] at h;omega
   ·simp only [G.push,upd_same];exact q4
   ·simp only [G.push,upd_same];exact q3
   ·simp only [G.push,upd_same,List.length_map,hlen];exact q1
   ·simp only [G.push,upd_same];exact q2
   ·rw [List.length_map,hlen,q5]
    exact hrd2.mono fun d y h=>RD.stay hst d y h
  refine ⟨_,_,Γ.push w.heap.size gc,_,rfl,.inr ⟨rfl,rfl⟩,⟨by simp [G.push,hn1],.inr ?_⟩,by simp,hm.push hS _ _ _ hro (fun _=>Nat.le_refl _),grow_push hm hE _ _ (fun _=>Nat.le_refl _) (by simp [hn1])⟩
  simp only [G.push,hn1,upd_same]
  exact ⟨by omega,trivial,q1⟩
end Go.Proofs.YtmbbkfffcflfcaaGreatDoor
