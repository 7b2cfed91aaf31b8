/- What the program computes, and the plain laws of it, part 29. -/
import Derived.Lib.AppendZerosOnto
import Derived.WideKeyEntry
import Derived.Lib.Join
import Derived.Test.YtmbbkfffcflfcaaGreatDoorS28
namespace Go.Proofs.YtmbbkfffcflfcaaGreatDoor
open Go.RowKit
open IntWalk renaming iteOmega → O, toNatUp → U
set_option linter.unusedVariables false
set_option linter.unusedSimpArgs false
theorem infoGrT:(Tryz.prog.info? 9).map (fun i=>(i.zero,i.size,i.bytes))=some (some (Value.string ByteArray.empty),1,16):=by kernel_rfl
set_option maxRecDepth 1000000 in
theorem growT_walk (n:Nat) (w:World) (hn:n≤1099511627776) :
  Calls Tryz.prog 128 #[.slice none 0 0,.int .i64 (n:Int)] w fun e w'=>∃ vs,e = .returned vs∧w'.ownsRow w.heap.size 9 1 vs 0 []∧Ext No w w':=by
 by_cases h0:n=0
 ·subst h0
  go_enter Tryz.func128,Tryz.ntmps128
  go_wp2
  go_ret
  exact ⟨_,rfl,own_nil _ _ _ _,Ext.refl _ _⟩
 ·obtain ⟨i,hi,hz,hs,hb⟩:=info_parts infoGrT
  have hrun:=Lib.run_append_nil_zeros (P:=Tryz.prog) w 31 3 31 9 i _ .i64 .i64 Tryz.underlying31 Tryz.underlying3 hi hz n (by omega) (by rw [hs];decide) (by omega) (by rw [hb];omega)
  have hown:(w.drew.alloc (.cells (Builtin.zeroCells (Value.string ByteArray.empty).cells n++Builtin.zeroCells (Value.string ByteArray.empty).cells (grownCap w n 0 9 - n)) 9)).ownsRow w.heap.size 9 1 (.slice (some ⟨w.heap.size,0,none⟩) 0 (grownCap w n 0 9)) 0 []:=by
   have hge:=grownCap_ge w n 0 9
   have hcm:grownCap w n 0 9≤maxLen:=grownCap_le_maxLen w n 0 9 (by simp only [maxLen];omega)
   refine ⟨rfl,.inr ⟨w.heap.size,_,_,rfl,Nat.le_refl _,heap_alloc_new w.drew _,Nat.zero_le _,hcm,?_,by simp⟩⟩
   simp only [Array.size_append,size_zeroCells]
   show n * 1+(grownCap w n 0 9 - n) * 1=_
   omega
  have hE:Ext No w (w.drew.alloc (.cells (Builtin.zeroCells (Value.string ByteArray.empty).cells n++Builtin.zeroCells (Value.string ByteArray.empty).cells (grownCap w n 0 9 - n)) 9)):=(Ext.refl No w).drew.alloc _
  generalize w.drew.alloc (.cells (Builtin.zeroCells (Value.string ByteArray.empty).cells n++Builtin.zeroCells (Value.string ByteArray.empty).cells (grownCap w n 0 9 - n)) 9)=W1 at hrun hown hE
  have hcap:=grownCap_ge w n 0 9
  generalize grownCap w n 0 9=cap at hrun hown hcap
  have HR:=Lib.hid hrun
  have HO:=Lib.hid hown
  have HE:=Lib.hid hE
  clear hrun hown hE hi hz hs hb
  go_enter Tryz.func128,Tryz.ntmps128
  go_wp2_with (at_builtin;refine Lib.wpList_append_run _ rfl (.tmp 20) (.tmp 21) 31 3 rfl (.slice none 0 0) (.int .i64 (n:Int)) rfl rfl _ W1 HR.out ?_)
  go_ret
  exact ⟨_,rfl,HO.out,HE.out⟩
theorem growT_pure (n:Nat) (hn:n≤1000000000) :
  PCalls Tryz.prog 128 [.c (.v (.slice none 0 0)),.c (.v (.int .i64 n))] [] fun r os=>r = .c (.own 0 0)∧os=[.arr 9 1 []]:=fun Γ w xs hm hx=>by
 have hxs:=rp_vals (vs:=[.slice none 0 0,.int .i64 (n:Int)]) hx
 rw [hxs]
 refine (growT_walk n w (by omega)).mono ?_
 rintro e w' ⟨v,rfl,hrow,hE⟩
 have hS:=Same.of_ext hE
 have hn0:Γ.n=0:=hm.n
 obtain ⟨_,h2⟩:=hrow
 have fin:∀ (b c:Nat) (v:Value),RO w' (Γ.push b c) Γ.n (.arr 9 1 []) → (0 < c → w.heap.size≤b) → OwnRep (Γ.push b c) Γ.n 0 v →
   ∃ r os' Γ' y,Ending.returned v = .returned y∧(r = .c (.own 0 0)∧os'=[.arr 9 1 []])∧RP w' Γ' r y∧([]:List Ob).length≤os'.length∧MemOk Γ' os' w'∧Grow ([]:List Ob).length Γ w Γ' w':=by
  intro b c v hro hb hrep
  rw [hn0] at hrep
  exact ⟨_,_,Γ.push b c,v,rfl,⟨rfl,rfl⟩,⟨by simp [G.push,hn0],hrep⟩,by simp,hm.push hS _ b c hro hb,grow_push hm hE b c hb (Nat.zero_le _)⟩
 rcases h2 with ⟨rfl,_⟩|⟨g,cap,cur,rfl,hb,hg,_,hcm,hsz,_⟩
 ·exact fin 0 0 _ ⟨by simp,by omega,fun _=>rfl,fun h=>absurd h (by simp [G.push,upd_same])⟩ (fun h=>absurd h (by omega)) (.inl ⟨by simp [G.push,upd_same],⟨none,rfl⟩,rfl⟩)
 ·rcases Nat.eq_zero_or_pos cap with h0|h0
  ·subst h0
   exact fin 0 0 _ ⟨by simp,by omega,fun _=>rfl,fun h=>absurd h (by simp [G.push,upd_same])⟩ (fun h=>absurd h (by omega)) (.inl ⟨by simp [G.push,upd_same],⟨_,rfl⟩,rfl⟩)
  ·refine fin g cap _ ⟨by simp,by omega,fun _=>rfl,fun _=>⟨cur,by simp only [G.push,upd_same];exact hg,by simp only [G.push,upd_same];exact hsz,by simp,by simp only [G.push,upd_same];exact hcm,by simp [All2]⟩⟩ (fun _=>hb) (.inr ⟨by simp [G.push,upd_same,h0],by simp [G.push,upd_same],by simp⟩)
end Go.Proofs.YtmbbkfffcflfcaaGreatDoor
namespace Go.Proofs.YtmbbkfffcflfcaaGreatDoor
attribute [local irreducible] PL QL PWPr PCalls Weak RetK Kontr PA
open Go.RowKit
open IntWalk renaming iteOmega → O, toNatUp → U
set_option linter.unusedVariables false
set_option linter.unusedSimpArgs false
set_option maxRecDepth 20000
theorem cloneE_pure (l:List Evt) (hl:l.length≤1000000000) :
  PCalls Tryz.prog 58 [.c (.sl 5 (l.map Evt.d))] [] fun r os=>r = .c (.own 0 l.length)∧os=[.arr 69 5 (l.map Evt.d)]:=by
 refine pcalls_adopt (R:=fun r os=>(r = .c (.own 0 l.length)∧os=[.arr 69 5 (l.map Evt.d)])∨(r = .c (.v (.slice none 0 0))∧os=[]∧l=[])) 69 5 (by omega) ?_ (by
  rintro r os (h|⟨rfl,rfl,rfl⟩)
  ·exact .inl h
  ·exact .inr ⟨rfl,rfl,rfl⟩)
 by_cases h0:l=[]
 ·subst h0
  refine pcalls_split0 (l1:=[]) (l2:=[]) fun A c=>?_
  cases A with
  | none =>
   refine PCalls.mono (R:=fun r os=>r = .c (.v (.slice none 0 0))∧os=[]) ?_ (fun r os h=>.inr ⟨h.1,h.2,rfl⟩)
   refine pcalls_of Tryz.func58 rfl (by simp [Tryz.ntmps58]) ?_
   rw [Tryz.ntmps58,Tryz.results58]
   push_cast [O,U]
   repeat' ((first|refine pG ?_|refine pQ ?_|refine pU ?_|refine pif ?_ ?_<;>intro h<;>try exact pN h)<;>push_cast [O,U])
   (refine retK_of [] ?_;push_cast [O,U])
  | some a =>
   refine PCalls.mono (R:=fun r os=>r = .c (.own 0 0)∧os=[.arr 69 5 []]) ?_ (fun r os h=>.inl h)
   refine pcalls_of Tryz.func58 rfl (by simp [Tryz.ntmps58]) ?_
   rw [Tryz.ntmps58,Tryz.results58]
   push_cast [O,U]
   repeat' ((first|refine pG ?_|refine pQ ?_|refine pU ?_|refine pif ?_ ?_<;>intro h<;>try exact pN h)<;>push_cast [O,U])
   (refine retK_of [0] ?_;push_cast [O,U])
 ·have h1:0 < l.length:=List.length_pos_iff.2 h0
  refine PCalls.mono (R:=fun r os=>r = .c (.own 0 l.length)∧os=[.arr 69 5 (l.map Evt.d)]) ?_ (fun r os h=>.inl h)
  refine pcalls_of Tryz.func58 rfl (by simp [Tryz.ntmps58]) ?_
  rw [Tryz.ntmps58,Tryz.results58]
  push_cast [O,U]
  repeat' ((first|refine pG ?_|refine pQ ?_|refine pU ?_|refine pif ?_ ?_<;>intro h<;>try exact pN h)<;>push_cast [O,U])
  (refine retK_of [0] ?_;push_cast [O,U])
set_option maxRecDepth 20000
set_option maxHeartbeats 4000000 in
theorem concat3_pure (A B C:List ByteArray) (hA:A.length≤1000000) (hB:B.length≤1000000) (hC:C.length≤1000000) :
  PCalls Tryz.prog 77 [.c (.sl 1 [[D.sl 1 (A.map strD)],[D.sl 1 (B.map strD)],[D.sl 1 (C.map strD)]])] [] fun r os=>r = .c (.own 0 ((A++B++C).length))∧os=[.arr 9 1 ((A++B++C).map strD)]:=by
 refine pcalls_of Tryz.func77 rfl (by simp [Tryz.ntmps77]) ?_
 rw [Tryz.ntmps77,Tryz.results77]
 push_cast [O,U]
 have cB:CutB 12 [25,26,27]:=trivial
 repeat' ((first|refine pC ?_|refine pQC ?_|refine pU ?_|refine pif ?_ ?_<;>intro h<;>try exact pN h)<;>push_cast [O,U])
 (apply pwp_loop3 (α:=Nat) 12 [25,26,27] (fun k=>[(11,.c (.v (.int .i64 k))),(3,.c (.v (.int .i64 (if k=0 then 0 else if k=1 then (A.length:Int) else if k=2 then A.length+B.length else A.length+B.length+C.length))))]) (fun k=>[]) (fun k=>k≤3) (fun k=>3 - k) (0);(focus ((try push_cast [O,U]);rfl));(focus exact (by omega));(focus ((refine weak_fg ?_;try push_cast [O,U]))))
 intro k hk
 have h3:k=0∨k=1∨k=2∨k=3:=by omega
 rcases h3 with rfl|rfl|rfl|rfl
 ·push_cast [O,U]
  repeat' ((first|refine pC ?_|refine pQC ?_|refine pU ?_|refine pif ?_ ?_<;>intro h<;>try exact pN h)<;>push_cast [O,U])
  exact ⟨1,by omega,by (refine weak_fg ?_;push_cast [O,U]),by omega⟩
 ·push_cast [O,U]
  repeat' ((first|refine pC ?_|refine pQC ?_|refine pU ?_|refine pif ?_ ?_<;>intro h<;>try exact pN h)<;>push_cast [O,U])
  exact ⟨2,by omega,by (refine weak_fg ?_;push_cast [O,U]),by omega⟩
 ·push_cast [O,U]
  repeat' ((first|refine pC ?_|refine pQC ?_|refine pU ?_|refine pif ?_ ?_<;>intro h<;>try exact pN h)<;>push_cast [O,U])
  exact ⟨3,by omega,by (refine weak_fg ?_;push_cast [O,U]),by omega⟩
 ·have hg:=growT_pure (A.length+B.length+C.length) (by omega)
  push_cast [O,U]
  repeat' ((first|refine plE [] hg ?_ ?_|refine pC ?_|refine pQC ?_|refine pU ?_|refine pif ?_ ?_<;>intro h<;>try exact pN h)<;>push_cast [O,U])
  (apply pwp_loop3 (α:=Nat) 12 [25,26,27] (fun k=>[(27,.c (.v (.int .i64 k))),(6,.c (.own 0 (if k=0 then 0 else if k=1 then A.length else if k=2 then A.length+B.length else A.length+B.length+C.length)))]) (fun k=>[(0,.arr 9 1 (if k=0 then [] else if k=1 then A.map strD else if k=2 then (A++B).map strD else (A++B++C).map strD))]) (fun k=>k≤3) (fun k=>3 - k) (0);(focus ((try push_cast [O,U]);rfl));(focus exact (by omega));(focus ((refine weak_fg ?_;try push_cast [O,U]))))
  intro k hk
  have h3:k=0∨k=1∨k=2∨k=3:=by omega
  rcases h3 with rfl|rfl|rfl|rfl
  ·push_cast [O,U]
   repeat' ((first|refine pC ?_|refine pQC ?_|refine pU ?_|refine pif ?_ ?_<;>intro h<;>try exact pN h)<;>push_cast [O,U])
   exact ⟨1,by omega,by (refine weak_fg ?_;push_cast [O,U]),by omega⟩
  ·push_cast [O,U]
   repeat' ((first|refine pC ?_|refine pQC ?_|refine pU ?_|refine pif ?_ ?_<;>intro h<;>try exact pN h)<;>push_cast [O,U])
   exact ⟨2,by omega,by (refine weak_fg ?_;push_cast [O,U]),by omega⟩
  ·push_cast [O,U]
   repeat' ((first|refine pC ?_|refine pQC ?_|refine pU ?_|refine pif ?_ ?_<;>intro h<;>try exact pN h)<;>push_cast [O,U])
   exact ⟨3,by omega,by (refine weak_fg ?_;push_cast [O,U]),by omega⟩
  ·push_cast [O,U]
   repeat' ((first|refine pC ?_|refine pQC ?_|refine pU ?_|refine pif ?_ ?_<;>intro h<;>try exact pN h)<;>push_cast [O,U])
   (refine retK_of [0] ?_;push_cast [O,U])
   all_goals omega
set_option maxRecDepth 20000
def fewB (m:Mod):Bool:=decide (m.aliases.length≤16) && decide (m.needs.length≤16) && decide (m.pre.length≤16) && decide (m.post.length≤16)
def modB (m:Mod):Bool:=fewB m && !(m.aliases.any fun p=>decide (globM p≠0)) && validS m.name && !((m.needs++m.pre++m.post).any fun s=>!validS s)
structure ModFit (m:Mod):Prop where
 name:Fit m.name
 als:∀ s ∈ m.aliases,Fit s
 ne:∀ s ∈ m.needs,Fit s
 pr:∀ s ∈ m.pre,Fit s
 po:∀ s ∈ m.post,Fit s
 l1:m.aliases.length≤9223372036854775807
 l2:m.needs.length≤9223372036854775807
 l3:m.pre.length≤9223372036854775807
 l4:m.post.length≤9223372036854775807
theorem kval1_pure (p:ByteArray) (hp:Fit p):PCalls Tryz.prog 74 [.c (.v (.string p))] [] fun r os=>r = .c (.v (.bool (decide (globM p≠0))))∧os=[]:=by
 have hc:=gchk_pure p hp
 refine pcalls_of Tryz.func74 rfl (by simp [Tryz.ntmps74]) ?_
 rw [Tryz.ntmps74,Tryz.results74]
 push_cast [O,U]
 repeat' ((first|refine plE [] hc ?_ ?_|refine pG ?_|refine pQ ?_|refine pU ?_|refine pif ?_ ?_<;>intro h<;>try exact pN h)<;>push_cast [O,U])
 (refine retK_of [] ?_;push_cast [O,U])
theorem kval2_pure (p:ByteArray) (hp:Fit p):PCalls Tryz.prog 78 [.c (.v (.string p))] [] fun r os=>r = .c (.v (.bool (!validS p)))∧os=[]:=by
 have hc:=valid_pure p hp
 refine pcalls_of Tryz.func78 rfl (by simp [Tryz.ntmps78]) ?_
 rw [Tryz.ntmps78,Tryz.results78]
 push_cast [O,U]
 repeat' ((first|refine plE [] hc ?_ ?_|refine pG ?_|refine pQ ?_|refine pU ?_|refine pif ?_ ?_<;>intro h<;>try exact pN h)<;>push_cast [O,U])
 (refine retK_of [] ?_;push_cast [O,U])
def lstM (m:Mod) (k:Nat):List ByteArray:=if k=0 then m.aliases else if k=1 then m.needs else if k=2 then m.pre else m.post
set_option maxHeartbeats 8000000 in
theorem kvalid_pure (m:Mod) (hm:ModFit m):PCalls Tryz.prog 45 [.agg m.e] [] fun r os=>r = .c (.v (.bool (modB m)))∧os=[]:=by
 refine pcalls_of Tryz.func45 rfl (by simp [Tryz.ntmps45]) ?_
 rw [Tryz.ntmps45,Tryz.results45]
 have q1:=hm.l1
 have q2:=hm.l2
 have q3:=hm.l3
 have q4:=hm.l4
 push_cast [O,U]
 have cB:CutB 5 [13,14,15,29]:=trivial
 repeat' ((first|refine pC ?_|refine pQC ?_|refine pU ?_|refine pif ?_ ?_<;>intro h<;>try exact pN h)<;>push_cast [O,U])
 (apply pwp_loop3 (α:=Nat) 5 [13,14,15,29] (fun k=>[(15,.c (.v (.int .i64 k)))]) (fun k=>[]) (fun k=>k≤4∧∀ j,j < k → (lstM m j).length≤16) (fun k=>4 - k) (0);(focus ((try push_cast [O,U]);rfl));(focus exact ⟨by omega,fun j hj=>by omega⟩);(focus ((refine weak_fg ?_;try push_cast [O,U]))))
 rintro k ⟨hk,hpre⟩
 have hlast:(¬ fewB m=true → modB m=false):=fun h=>by unfold modB;rw [Bool.not_eq_true] at h;rw [h];rfl
 have h5:k=0∨k=1∨k=2∨k=3∨k=4:=by omega
 have hstep:(lstM m k).length≤16 → ∀ j,j < k+1 → (lstM m j).length≤16:=fun h j hj=>by
  rcases Nat.lt_or_ge j k with h'|h'
  ·exact hpre j h'
  ·rw [show j=k by omega];exact h
 rcases h5 with rfl|rfl|rfl|rfl|rfl
 ·push_cast [O,U]
  by_cases hl:m.aliases.length≤16
  ·repeat' ((first|refine pC ?_|refine pQC ?_|refine pU ?_|refine pif ?_ ?_<;>intro h<;>try exact pN h)<;>push_cast [O,U])
   exact ⟨1,⟨by omega,hstep hl⟩,by (refine weak_fg ?_;push_cast [O,U]),by omega⟩
  ·have hf:=hlast (by unfold fewB;rw [decide_eq_false hl];simp)
   have hl2:(16:Int) < (m.aliases.length:Int):=by omega
   repeat' ((first|refine pC ?_|refine pQC ?_|refine pU ?_|refine pif ?_ ?_<;>intro h<;>try exact pN h)<;>push_cast [O,U,hl2])
   (refine retK_of [] ?_;push_cast [O,U,hf])
 ·push_cast [O,U]
  by_cases hl:m.needs.length≤16
  ·repeat' ((first|refine pC ?_|refine pQC ?_|refine pU ?_|refine pif ?_ ?_<;>intro h<;>try exact pN h)<;>push_cast [O,U])
   exact ⟨2,⟨by omega,hstep hl⟩,by (refine weak_fg ?_;push_cast [O,U]),by omega⟩
  ·have hf:=hlast (by unfold fewB;rw [decide_eq_false hl];simp)
   have hl2:(16:Int) < (m.needs.length:Int):=by omega
   repeat' ((first|refine pC ?_|refine pQC ?_|refine pU ?_|refine pif ?_ ?_<;>intro h<;>try exact pN h)<;>push_cast [O,U,hl2])
   (refine retK_of [] ?_;push_cast [O,U,hf])
 ·push_cast [O,U]
  by_cases hl:m.pre.length≤16
  ·repeat' ((first|refine pC ?_|refine pQC ?_|refine pU ?_|refine pif ?_ ?_<;>intro h<;>try exact pN h)<;>push_cast [O,U])
   exact ⟨3,⟨by omega,hstep hl⟩,by (refine weak_fg ?_;push_cast [O,U]),by omega⟩
  ·have hf:=hlast (by unfold fewB;rw [decide_eq_false hl];simp)
   have hl2:(16:Int) < (m.pre.length:Int):=by omega
   repeat' ((first|refine pC ?_|refine pQC ?_|refine pU ?_|refine pif ?_ ?_<;>intro h<;>try exact pN h)<;>push_cast [O,U,hl2])
   (refine retK_of [] ?_;push_cast [O,U,hf])
 ·push_cast [O,U]
  by_cases hl:m.post.length≤16
  ·repeat' ((first|refine pC ?_|refine pQC ?_|refine pU ?_|refine pif ?_ ?_<;>intro h<;>try exact pN h)<;>push_cast [O,U])
   exact ⟨4,⟨by omega,hstep hl⟩,by (refine weak_fg ?_;push_cast [O,U]),by omega⟩
  ·have hf:=hlast (by unfold fewB;rw [decide_eq_false hl];simp)
   have hl2:(16:Int) < (m.post.length:Int):=by omega
   repeat' ((first|refine pC ?_|refine pQC ?_|refine pU ?_|refine pif ?_ ?_<;>intro h<;>try exact pN h)<;>push_cast [O,U,hl2])
   (refine retK_of [] ?_;push_cast [O,U,hf])
 ·have g1:m.aliases.length≤16:=hpre 0 (by omega)
  have g2:m.needs.length≤16:=hpre 1 (by omega)
  have g3:m.pre.length≤16:=hpre 2 (by omega)
  have g4:m.post.length≤16:=hpre 3 (by omega)
  have hfew:fewB m=true:=by unfold fewB;rw [decide_eq_true g1,decide_eq_true g2,decide_eq_true g3,decide_eq_true g4];rfl
  have hmod:modB m=(!(m.aliases.any fun p=>decide (globM p≠0)) && validS m.name && !((m.needs++m.pre++m.post).any fun s=>!validS s)):=by unfold modB;rw [hfew,Bool.true_and]
  have c1:=containsFuncS_pure m.aliases (by omega) 74 [] [] (fun p=>decide (globM p≠0)) ⟨by kernel_rfl,fun x hx=>kval1_pure x (hm.als x hx)⟩
  have c2:=valid_pure m.name hm.name
  have c3:=concat3_pure m.needs m.pre m.post (by omega) (by omega) (by omega)
  have c4:=containsFuncS_pure (m.needs++m.pre++m.post) (by simp only [List.length_append];omega) 78 [] [] (fun s=>!validS s) ⟨by kernel_rfl,fun x hx=>kval2_pure x (by
   rcases List.mem_append.1 hx with hx|hx
   ·rcases List.mem_append.1 hx with hx|hx
    ·exact hm.ne x hx
    ·exact hm.pr x hx
   ·exact hm.po x hx)⟩
  rw [hmod]
  obtain ⟨A1,hA1⟩:∃ A1,(m.aliases.any fun p=>decide (globM p≠0))=A1:=⟨_,rfl⟩
  obtain ⟨A2,hA2⟩:∃ A2,validS m.name=A2:=⟨_,rfl⟩
  obtain ⟨cc,hcc⟩:∃ cc,m.needs++m.pre++m.post=cc:=⟨_,rfl⟩
  rw [hcc] at c3 c4 ⊢
  obtain ⟨A3,hA3⟩:∃ A3,(cc.any fun s=>!validS s)=A3:=⟨_,rfl⟩
  have htk:=List.take_of_length_le (l:=cc.map strD) (i:=cc.length) (by simp)
  rw [hA1] at c1 ⊢
  rw [hA2] at c2 ⊢
  rw [hA3] at c4 ⊢
  push_cast [O,U]
  cases A1 with
  | true =>
   repeat' ((first|refine plE [] c1 ?_ ?_|refine pC ?_|refine pQC ?_|refine pU ?_|refine pif ?_ ?_<;>intro h<;>try exact pN h)<;>push_cast [O,U])
   (refine retK_of [] ?_;push_cast [O,U])
  | false =>
   cases A2 with
   | false =>
    repeat' ((first|refine plE [] c1 ?_ ?_|refine plE [] c2 ?_ ?_|refine pC ?_|refine pQC ?_|refine pU ?_|refine pif ?_ ?_<;>intro h<;>try exact pN h)<;>push_cast [O,U])
    (refine retK_of [] ?_;push_cast [O,U])
   | true =>
    repeat' ((first|refine plE [] c1 ?_ ?_;focus (push_cast [O,U,htk];done)|refine plE [] c2 ?_ ?_;focus (push_cast [O,U,htk];done)|refine plE [] c3 ?_ ?_;focus (push_cast [O,U,htk];done)|(refine pl_call2 true [] rfl rfl (by kernel_rfl) (c4) ?_ ?_ ?_;push_cast [O,U,htk];(intro _ r os;rintro ⟨rfl,rfl⟩;push_cast [O,U,htk]);rintro r os ⟨rfl,rfl⟩;refine pl_of_pops ?_)|refine pC ?_|refine pQC ?_|refine pU ?_|refine pif ?_ ?_<;>intro h<;>try exact pN h)<;>push_cast [O,U,htk])
    (refine retK_of [] ?_;push_cast [O,U])
set_option maxRecDepth 20000
def idxI:List Dev → Int → Int
 | [],_ => -1
 | d :: l,n=>if d.index=n then 0 else if idxI l n < 0 then -1 else idxI l n+1
theorem idxI_find (n:Int):∀ l:List Dev,(idxI l n = -1∧findD l n=none)∨∃ i:Nat,idxI l n=i∧i < l.length∧findD l n=some (l.getD i default)
 | []=>.inl ⟨rfl,rfl⟩
 | d :: l=>by
  by_cases h:d.index=n
  ·exact .inr ⟨0,by simp [idxI,h],by simp,by simp [findD,h]⟩
  ·have hf:findD (d :: l) n=findD l n:=by unfold findD;rw [List.find?_cons_of_neg (by simpa using h)]
   rw [hf,idxI,if_neg h]
   rcases idxI_find n l with ⟨h1,h2⟩|⟨i,h1,h2,h3⟩
   ·exact .inl ⟨by rw [h1];rfl,h2⟩
   ·exact .inr ⟨i+1,by rw [h1,if_neg (by omega)];omega,by simp only [List.length_cons];omega,by rw [h3];rfl⟩
theorem idxI_skip {n:Int} {b:List Dev}:∀ {a:List Dev},(∀ d ∈ a,d.index≠n) → idxI (a++b) n=if idxI b n < 0 then -1 else a.length+idxI b n
 | [],_=>by
  rcases idxI_find n b with ⟨h1,_⟩|⟨i,h1,_⟩
  ·simp [h1]
  ·rw [List.nil_append,h1,if_neg (by omega)];simp
 | x :: a,h=>by
  rw [List.cons_append,idxI,if_neg (h x (by simp)),idxI_skip fun d hd=>h d (by simp [hd])]
  split
  ·simp
  ·rw [if_neg (by omega),List.length_cons];omega
theorem idxI_at {l:List Dev} {n:Int} {k:Nat} (hk:k < l.length) (h0:∀ d ∈ l.take k,d.index≠n) (h:(l.getD k default).index=n):idxI l n=k:=by
 have e:l=l.take k++l[k] :: l.drop (k+1):=by rw [← List.drop_eq_getElem_cons hk,List.take_append_drop]
 rw [getD_lt l hk] at h
 rw [e,idxI_skip h0,idxI,if_pos h,List.length_take]
 simp
 omega
theorem idxI_none {l:List Dev} {n:Int} (h:∀ d ∈ l,d.index≠n):idxI l n = -1:=by
 rcases idxI_find n l with ⟨h1,_⟩|⟨i,_,h2,h3⟩
 ·exact h1
 ·rw [findD_none.2 h] at h3;cases h3
theorem dnext {l:List Dev} {n:Int} {k:Nat} (hk:k < l.length) (h0:∀ d ∈ l.take k,d.index≠n) (h:¬ (l.getD k default).index=n):∀ d ∈ l.take (k+1),d.index≠n:=by
 intro y hy
 rw [List.take_succ_eq_append_getElem hk,List.mem_append,List.mem_singleton] at hy
 rcases hy with hy|hy
 ·exact h0 y hy
 ·rw [hy,← getD_lt l hk];exact h
set_option maxHeartbeats 1000000 in
theorem rindex_pure (l:List Dev) (n:Int) (hl:l.length≤1000000000) :
  PCalls Tryz.prog 209 [.c (.sl 10 (l.map Dev.d)),.c (.v (.int .i64 n))] [] fun r os=>r = .c (.v (.int .i64 (idxI l n)))∧os=[]:=by
 refine pcalls_of Tryz.func209 rfl (by simp [Tryz.ntmps209]) ?_
 rw [Tryz.ntmps209,Tryz.results209]
 push_cast [O,U]
 have cB:CutB 6 []:=trivial
 repeat' ((first|refine pC ?_|refine pQC ?_|refine pU ?_|refine pif ?_ ?_<;>intro h<;>try exact pN h)<;>push_cast [O,U])
 (apply pwp_loop3 (α:=Nat) 6 [] (fun k=>[(5,.c (.v (.int .i64 k)))]) (fun k=>[]) (fun k=>k≤l.length∧∀ d ∈ l.take k,d.index≠n) (fun k=>l.length - k) (0);(focus ((try push_cast [O,U]);rfl));(focus exact ⟨by omega,by simp⟩);(focus ((refine weak_fg ?_;try push_cast [O,U]))))
 rintro k ⟨hk,h0⟩
 push_cast [O,U]
 by_cases hlt:k < l.length
 ·by_cases hn:(l.getD k default).index=n
  ·have hg:=idxI_at hlt h0 hn
   have hn':=eq_true hn
   repeat' ((first|refine pC ?_|refine pQC ?_|refine pU ?_|refine pif ?_ ?_<;>intro h<;>try exact pN h)<;>push_cast [O,U,hn'])
   (refine retK_of [] ?_;push_cast [O,U])
   all_goals rw [hg]
  ·have h1:=dnext hlt h0 hn
   repeat' ((first|refine pC ?_|refine pQC ?_|refine pU ?_|refine pif ?_ ?_<;>intro h<;>try exact pN h)<;>push_cast [O,U,hn])
   exact ⟨k+1,⟨by omega,h1⟩,by (refine weak_fg ?_;push_cast [O,U]),by omega⟩
 ·rw [List.take_of_length_le (by omega)] at h0
  have hg:=idxI_none h0
  repeat' ((first|refine pC ?_|refine pQC ?_|refine pU ?_|refine pif ?_ ?_<;>intro h<;>try exact pN h)<;>push_cast [O,U])
  (refine retK_of [] ?_;push_cast [O,U])
  all_goals rw [hg]
set_option maxHeartbeats 1000000 in
theorem rfind_pure (l:List Dev) (n:Int) (hl:l.length≤1000000000) :
  PCalls Tryz.prog 170 [.agg (trE l),.c (.v (.int .i64 n))] [] fun r os=>r = .two (.agg ((findD l n).getD default).e) (.c (.v (.bool ((findD l n).isSome))))∧os=[]:=by
 have hi:=rindex_pure l n hl
 refine pcalls_of Tryz.func170 rfl (by simp [Tryz.ntmps170]) ?_
 rw [Tryz.ntmps170,Tryz.results170]
 rcases idxI_find n l with ⟨h1,h2⟩|⟨i,h1,h2,h3⟩
 ·rw [h1] at hi
  rw [h2]
  push_cast [O,U]
  repeat' ((first|refine plE [] hi ?_ ?_|refine pG ?_|refine pQ ?_|refine pU ?_|refine pif ?_ ?_<;>intro h<;>try exact pN h)<;>push_cast [O,U])
  (refine retK_of [] ?_;push_cast [O,U])
  all_goals exact ⟨⟨rfl,rfl,rfl,rfl,rfl,rfl,rfl,rfl,rfl,rfl⟩,rfl⟩
 ·rw [h1] at hi
  rw [h3]
  push_cast [O,U]
  repeat' ((first|refine plE [] hi ?_ ?_|refine pG ?_|refine pQ ?_|refine pU ?_|refine pif ?_ ?_<;>intro h<;>try exact pN h)<;>push_cast [O,U])
  (refine retK_of [] ?_;push_cast [O,U])
  all_goals exact ⟨⟨rfl,rfl,rfl,rfl,rfl,rfl,rfl,rfl,rfl,rfl⟩,rfl⟩
set_option maxRecDepth 20000
set_option maxHeartbeats 1000000 in
theorem rchain_pure (l:List Dev) (n:Int) (hl:l.length≤1000000) :
  PCalls Tryz.prog 131 [.agg (trE l),.c (.v (.int .i64 n))] [] fun r os=>r = .c (.sl 10 ((chainM l n).map Dev.d))∧os=[]:=by
 refine pcalls_of Tryz.func131 rfl (by simp [Tryz.ntmps131]) ?_
 rw [Tryz.ntmps131,Tryz.results131]
 push_cast [O,U]
 have cB:CutB 8 []:=trivial
 repeat' ((first|refine pC ?_|refine pQC ?_|refine pU ?_|refine pif ?_ ?_<;>intro h<;>try exact pN h)<;>push_cast [O,U])
 refine pwp_weak (weak_adopt 5 53 10 (by omega) (by push_cast [O,U])) ?_
 push_cast [O,U]
 (apply pwp_loop3 (α:=List Dev × Int) 8 [] (fun x=>[(1,.c (.v (.int .i64 x.2))),(5,.c (.own 1 (x.1.length)))]) (fun x=>[(1,.arr 53 10 (x.1.map Dev.d))]) (fun x=>x.1++chainGo l (l.length - x.1.length) x.2=chainM l n∧x.1.length≤l.length) (fun x=>l.length - x.1.length) (([],n));(focus ((try push_cast [O,U]);rfl));(focus exact ⟨by simp [chainM],by simp⟩);(focus ((refine weak_fg ?_;try push_cast [O,U]))))
 rintro ⟨acc,m⟩ ⟨h1,h2⟩
 simp only at h1 h2
 push_cast [O,U]
 by_cases hlt:acc.length < l.length
 ·have hf:=rfind_pure l m (by omega)
  obtain ⟨k,hk⟩:∃ k,l.length - acc.length=k+1:=⟨l.length - acc.length - 1,by omega⟩
  rw [hk] at h1
  cases hx:findD l m with
  | none =>
   simp only [hx,Option.getD_none,Option.isSome_none] at hf
   rw [chainGo,hx] at h1
   simp only [List.append_nil] at h1
   repeat' ((first|refine plE [] hf ?_ ?_|refine pC ?_|refine pQC ?_|refine pU ?_|refine pif ?_ ?_<;>intro h<;>try exact pN h)<;>push_cast [O,U])
   (refine retK_of [] ?_;push_cast [O,U])
   all_goals rw [h1]
  | some d =>
   simp only [hx,Option.getD_some,Option.isSome_some] at hf
   rw [chainGo_some hx] at h1
   repeat' ((first|refine plE [] hf ?_ ?_|refine pC ?_|refine pQC ?_|refine pU ?_|refine pif ?_ ?_<;>intro h<;>try exact pN h)<;>push_cast [O,U])
   refine ⟨(acc++[d],d.parent),⟨?_,by simp only [List.length_append,List.length_cons,List.length_nil];omega⟩,by (refine weak_fg ?_;push_cast [O,U]),by simp only [List.length_append,List.length_cons,List.length_nil];omega⟩
   simp only [List.length_append,List.length_cons,List.length_nil,List.append_assoc,List.singleton_append]
   rw [show l.length - (acc.length+(0+1))=k by omega]
   exact h1
 ·have hk:l.length - acc.length=0:=by omega
  rw [hk,chainGo,List.append_nil] at h1
  repeat' ((first|refine pC ?_|refine pQC ?_|refine pU ?_|refine pif ?_ ?_<;>intro h<;>try exact pN h)<;>push_cast [O,U])
  (refine retK_of [] ?_;push_cast [O,U])
  all_goals rw [h1]
set_option maxHeartbeats 1000000 in
theorem rorigin_pure (l:List Dev) (n:Int) (hl:l.length≤1000000) :
  PCalls Tryz.prog 82 [.agg (trE l),.c (.v (.int .i64 n))] [] fun r os=>r = .c (.own 0 ((origM l n).length))∧os=[.arr 9 1 ((origM l n).map strD)]:=by
 have hc:=rchain_pure l n hl
 have hcl:=chain_len l n
 unfold origM
 obtain ⟨c,hcc⟩:∃ c,chainM l n=c:=⟨_,rfl⟩
 rw [hcc] at hc hcl ⊢
 refine pcalls_of Tryz.func82 rfl (by simp [Tryz.ntmps82]) ?_
 rw [Tryz.ntmps82,Tryz.results82]
 push_cast [O,U]
 have cB:CutB 8 []:=trivial
 repeat' ((first|refine plE [] hc ?_ ?_|refine pC ?_|refine pQC ?_|refine pU ?_|refine pif ?_ ?_<;>intro h<;>try exact pN h)<;>push_cast [O,U])
 refine pwp_weak (weak_adopt 5 9 1 (by omega) (by push_cast [O,U])) ?_
 push_cast [O,U]
 (apply pwp_loop3 (α:=Nat × List ByteArray) 8 [] (fun x=>[(7,.c (.v (.int .i64 ((x.1:Int) - 1)))),(5,.c (.own 1 (x.2.length)))]) (fun x=>[(1,.arr 9 1 (x.2.map strD))]) (fun x=>x.1≤c.length∧x.2=((c.drop x.1).map Dev.original).reverse) (fun x=>x.1) ((c.length,[]));(focus ((try push_cast [O,U]);rfl));(focus exact ⟨Nat.le_refl _,by simp⟩);(focus ((refine weak_fg ?_;try push_cast [O,U]))))
 rintro ⟨k,out⟩ ⟨hk,ho⟩
 simp only at hk ho
 have hol:out.length≤c.length:=by rw [ho,List.length_reverse,List.length_map,List.length_drop];omega
 cases k with
 | zero =>
  rw [List.drop_zero] at ho
  push_cast [O,U]
  repeat' ((first|refine pC ?_|refine pQC ?_|refine pU ?_|refine pif ?_ ?_<;>intro h<;>try exact pN h)<;>push_cast [O,U])
  (refine retK_of [1] ?_;push_cast [O,U])
  all_goals rw [ho]
  all_goals simp
 | succ k =>
  have hlt:k < c.length:=by omega
  have hd:out++[(c.getD k default).original]=((c.drop k).map Dev.original).reverse:=by
   rw [ho,List.drop_eq_getElem_cons hlt,getD_lt c hlt,List.map_cons,List.reverse_cons]
  have hi:((k+1:Nat):Int) - 1=(k:Int):=by omega
  simp only [hi]
  push_cast [O,U]
  repeat' ((first|refine pC ?_|refine pQC ?_|refine pU ?_|refine pif ?_ ?_<;>intro h<;>try exact pN h)<;>push_cast [O,U])
  exact ⟨(k,out++[(c.getD k default).original]),⟨by simp only;omega,hd⟩,by (refine weak_fg ?_;push_cast [O,U]),by simp only;omega⟩
set_option maxRecDepth 20000
set_option maxRecDepth 20000
theorem slash_fit {n:Nat} (h:n≤100000000):((⟨#[47]⟩:ByteArray).size:Int)+(n:Int)≤9223372036854775807:=by
 have:(⟨#[47]⟩:ByteArray).size=1:=rfl
 omega
theorem slash_fit2 {n:Nat} (h:n≤100000000):(n:Int)+((⟨#[47]⟩:ByteArray).size:Int)≤9223372036854775807:=by
 have:(⟨#[47]⟩:ByteArray).size=1:=rfl
 omega
theorem texts_read {w:World} {I:Nat → Prop}:∀ (l:List ByteArray) (vs:List Value),All2 (RD w I) (l.map strD).flatten vs → vs=l.map Value.string
 | [],vs,h=>by simpa [All2.nil_l] using h
 | a :: l,vs,h=>by
  simp only [List.map_cons,List.flatten_cons,strD,List.cons_append,List.nil_append] at h
  obtain ⟨y,vs',rfl,h5,h6⟩:=All2.cons_l.1 h
  rw [RD] at h5
  rw [h5.1,texts_read l vs' h6];rfl
theorem sjoin_pure (ps:List ByteArray) (h0:0 < ps.length) (hN:ps.length≤1000000) (hlen:(Lib.join (ps.map (·.data.toList)) [47]).length≤140737488355328) :
  PCalls Tryz.prog 132 [.c (.sl 1 (ps.map strD)),.c (.v (.string (⟨#[47]⟩)))] [] fun r os=>r = .c (.v (.string ⟨(Lib.join (ps.map (·.data.toList)) [47]).toArray⟩))∧os=[]:=by
 unfold PCalls
 intro Γ w xs hm hx
 obtain ⟨y,m',rfl,h1,h2⟩:=All2.cons_l.1 hx
 obtain ⟨z,m2,rfl,h3,h4⟩:=All2.cons_l.1 h2
 rw [All2.nil_l] at h4
 subst h4
 obtain ⟨A,c,cs,rfl,hc,hr,_,ha⟩:=rd_sl.1 h1
 have hcs:=texts_read ps cs ha
 subst hcs
 rw [List.length_map] at hc hr
 obtain ⟨b,o,rfl,_,hb,hcell⟩:=hr.2 h0
 have hz:z = .string ⟨#[47]⟩:=h3.1
 subst hz
 have hl:(ps.map strD).length=ps.length:=List.length_map _
 rw [hl]
 refine (strings_Join b o c ps ⟨#[47]⟩ w (fun j x hj=>hcell j _ (by rw [List.getElem?_map,hj];rfl)) hb (by omega) hc hlen).mono ?_
 rintro e w' ⟨rfl,hB⟩
 have hE:=ext_of_below hB
 exact ⟨_,[],Γ,_,rfl,⟨rfl,rfl⟩,⟨rfl,rfl⟩,Nat.le_refl _,hm.same (Same.of_ext hE),ext_grow hE⟩
theorem join_joinL:∀ ps:List (List UInt8),ps≠[] → 47 :: Lib.join ps [47]=joinL ps
 | [],h=>absurd rfl h
 | p :: ps,_=>by
  rw [Lib.join_cons,joinL_cons]
  rfl
theorem joinL_len {B:Nat}:∀ {ps:List (List UInt8)},(∀ p ∈ ps,p.length≤B) → (joinL ps).length≤ps.length * (B+1)
 | [],_=>by simp [joinL]
 | p :: ps,h=>by
  have h1:=joinL_len fun q hq=>h q (List.mem_cons_of_mem _ hq)
  have h2:=h p List.mem_cons_self
  rw [joinL_cons,List.length_cons,List.length_append,List.length_cons,Nat.add_mul]
  omega
theorem ba_ext {a b:ByteArray} (h:a.data.toList=b.data.toList):a=b:=by cases a;cases b;simp only at h;congr;exact Array.toList_inj.1 h
theorem rjoin_pure (ps:List ByteArray) (h0:0 < ps.length) (hN:ps.length≤1000) (hz:∀ p ∈ ps,p.size≤1000) :
  PCalls Tryz.prog 83 [.c (.sl 1 (ps.map strD))] [] fun r os=>r = .c (.v (.string (joinP ps)))∧os=[]:=by
 have hL:(joinL (ps.map (·.data.toList))).length≤ps.length * 1001:=by
  have:=joinL_len (B:=1000) (ps:=ps.map (·.data.toList)) fun q hq=>by obtain ⟨x,hx,rfl⟩:=List.mem_map.1 hq;exact hz x hx
  rwa [List.length_map] at this
 have hne:ps.map (·.data.toList)≠[]:=fun h=>by rw [List.map_eq_nil_iff] at h;subst h;simp at h0
 have hjj:=join_joinL _ hne
 have hlen:(Lib.join (ps.map (·.data.toList)) [47]).length≤140737488355328:=by
  have:=congrArg List.length hjj
  rw [List.length_cons] at this
  omega
 have hc:=sjoin_pure ps h0 (by omega) hlen
 obtain ⟨t,ht⟩:∃ t:ByteArray,(⟨(Lib.join (ps.map (·.data.toList)) [47]).toArray⟩:ByteArray)=t:=⟨_,rfl⟩
 have he:⟨#[47]⟩++t=joinP ps:=by
  apply ba_ext
  rw [joinP_list,← hjj,← ht]
  simp
 rw [ht] at hc
 have htz:t.size≤1001000:=by
  rw [← ht]
  have:=congrArg List.length hjj
  rw [List.length_cons] at this
  show (Lib.join (ps.map (·.data.toList)) [47]).toArray.size≤_
  rw [List.size_toArray]
  omega
 refine pcalls_of Tryz.func83 rfl (by simp [Tryz.ntmps83]) ?_
 rw [Tryz.ntmps83,Tryz.results83]
 push_cast [O,U]
 have hf:=slash_fit (n:=t.size) (by omega)
 repeat' ((first|refine plE [] hc ?_ ?_|refine pG ?_|refine pQ ?_|refine pU ?_|refine pif ?_ ?_<;>intro h<;>try exact pN h)<;>push_cast [O,U,hf])
 (refine retK_of [] ?_;push_cast [O,U,he])
theorem orig_size {l:List Dev} {B:Nat} (hz:∀ d ∈ l,d.original.size≤B) (n:Int):∀ p ∈ origM l n,p.size≤B:=fun p hp=>by
 unfold origM at hp
 rw [List.mem_reverse] at hp
 obtain ⟨d,hd,rfl⟩:=List.mem_map.1 hp
 exact hz d (chainGo_mem _ _ d hd)
set_option maxHeartbeats 1000000 in
theorem rplace_pure (l:List Dev) (n:Int) (hl:l.length≤1000) (hz:∀ d ∈ l,d.original.size≤1000) :
  PCalls Tryz.prog 48 [.agg (trE l),.c (.v (.int .i64 n))] [] fun r os=>r = .c (.v (.string (placeM l n)))∧os=[]:=by
 have hc:=rorigin_pure l n (by omega)
 have hol:=orig_len l n
 have hos:=orig_size hz n
 unfold placeM
 obtain ⟨ps,hps⟩:∃ ps,origM l n=ps:=⟨_,rfl⟩
 rw [hps] at hc hol hos ⊢
 have htk:=List.take_of_length_le (l:=ps.map strD) (i:=ps.length) (by simp)
 refine pcalls_of Tryz.func48 rfl (by simp [Tryz.ntmps48]) ?_
 rw [Tryz.ntmps48,Tryz.results48]
 push_cast [O,U]
 by_cases h0:0 < ps.length
 ·have hj:=rjoin_pure ps h0 (by omega) hos
  have h0':(0:Int) < (ps.length:Int):=by omega
  repeat' ((first|refine plE [] hc ?_ ?_;focus (push_cast [O,U,h0',htk];done)|(refine pl_call2 true [] rfl rfl (by kernel_rfl) (hj) ?_ ?_ ?_;push_cast [O,U,h0',htk];(intro _ r os;rintro ⟨rfl,rfl⟩;push_cast [O,U,h0',htk]);rintro r os ⟨rfl,rfl⟩;refine pl_of_pops ?_)|refine pG ?_|refine pQ ?_|refine pU ?_|refine pif ?_ ?_<;>intro h<;>try exact pN h)<;>push_cast [O,U,h0',htk])
  (refine retK_of [] ?_;push_cast [O,U])
 ·have he:ps=[]:=List.eq_nil_of_length_eq_zero (by omega)
  subst he
  repeat' ((first|refine plE [] hc ?_ ?_|refine pG ?_|refine pQ ?_|refine pU ?_|refine pif ?_ ?_<;>intro h<;>try exact pN h)<;>push_cast [O,U])
  (refine retK_of [] ?_;push_cast [O,U])
  all_goals rfl
end Go.Proofs.YtmbbkfffcflfcaaGreatDoor
