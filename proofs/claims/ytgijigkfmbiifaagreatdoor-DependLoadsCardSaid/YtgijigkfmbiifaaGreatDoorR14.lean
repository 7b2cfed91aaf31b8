/- What the program computes, and the plain laws of it, part 14. -/
import Derived.Test.YtgijigkfmbiifaaGreatDoorRows
import Derived.WideKeyEntry
import Derived.Test.YtgijigkfmbiifaaGreatDoorR13
namespace Go.Proofs.YtgijigkfmbiifaaGreatDoor
attribute [local irreducible] PL QL PWPr PCalls Weak RetK Kontr
open Go.RowKit
open IntWalk renaming iteOmega → iO, toNatUp → tN
set_option linter.unusedVariables false
set_option linter.unusedSimpArgs false
set_option maxRecDepth 20000
theorem fold_pure (v n:Int) (hv : -9223372036854775808≤v) (hv':v≤9223372036854775807) (hn:n≤9223372036854775807) :
  PCalls Tryz.prog 44 [.c (.v (.int .i64 v)),.c (.v (.int .i64 n))] [] fun r os=>r = .c (.v (.int .i64 (fold v n)))∧os=[]:=by
 have hlo:=Int.lt_tmod_of_pos v (b:=n)
 have hhi:=Int.tmod_lt_of_pos v (b:=n)
 refine pcalls_of Tryz.func44 rfl (by simp [Tryz.ntmps44]) ?_
 rw [Tryz.ntmps44,Tryz.results44]
 push_cast [iO,tN]
 by_cases h1:n≤1
 ·repeat' (first|((first|refine pG ?_|refine pQ ?_|refine pU ?_);push_cast [iO,tN])|(refine pif (fun h=>?_) (fun h=>?_)<;>first|exact pN h|push_cast [iO,tN]))
  (refine retK_of [] ?_;push_cast [iO,tN])
  simp [fold,h1]
 ·by_cases h0:0≤v
  ·have he:=Int.tmod_eq_emod_of_nonneg h0 (b:=n)
   have hb:=Int.emod_nonneg v (b:=n) (by omega)
   repeat' (first|((first|refine pG ?_|refine pQ ?_|refine pU ?_);push_cast [iO,tN])|(refine pif (fun h=>?_) (fun h=>?_)<;>first|exact pN h|push_cast [iO,tN]))
   (refine retK_of [] ?_;push_cast [iO,tN])
   simp only [fold,if_neg h1,he]
   rw [if_neg (by omega)]
  ·by_cases h2:v.tmod n < 0
   ·repeat' (first|((first|refine pG ?_|refine pQ ?_|refine pU ?_);push_cast [iO,tN])|(refine pif (fun h=>?_) (fun h=>?_)<;>first|exact pN h|push_cast [iO,tN]))
    (refine retK_of [] ?_;push_cast [iO,tN])
    simp [fold,h1,h2]
   ·repeat' (first|((first|refine pG ?_|refine pQ ?_|refine pU ?_);push_cast [iO,tN])|(refine pif (fun h=>?_) (fun h=>?_)<;>first|exact pN h|push_cast [iO,tN]))
    (refine retK_of [] ?_;push_cast [iO,tN])
    simp [fold,h1,h2]
def tape (L:List Int) (k:Nat):Ob:=.box 25 [.sl 1 (L.map fun x=>[D.v (.int .i64 x)]),.v (.int .i64 k)]
attribute [push_cast] tape
theorem next_pure (L:List Int) (k:Nat) (n:Int) (hk:k < 1000000) (hn:n≤9223372036854775807) (hL:∀ x ∈ L,-9223372036854775808≤x∧x≤9223372036854775807) (hl:L.length≤9223372036854775807) :
  PCalls Tryz.prog 14 [.c (.ptr 0 0),.c (.v (.int .i64 n))] [tape L k] fun r os=>r = .c (.v (.int .i64 (fold (tapeAt L k) n)))∧os=[tape L (k+1)]:=by
 refine pcalls_of Tryz.func14 rfl (by simp [Tryz.ntmps14]) ?_
 rw [Tryz.ntmps14,Tryz.results14]
 push_cast [iO,tN]
 by_cases hlt:k < L.length
 ·have hx:=hL (L.getD k default) (by rw [getD_lt L hlt];exact List.getElem_mem _)
  repeat' (first |  (refine plc [] (fold_pure (L.getD k default) n (by omega) (by omega) hn) ?_ ?_;push_cast [iO,tN];rintro r os ⟨rfl,rfl⟩;push_cast [iO,tN])  | ((first|refine pG ?_|refine pQ ?_|refine pU ?_);push_cast [iO,tN])|(refine pif (fun h=>?_) (fun h=>?_)<;>first|exact pN h|push_cast [iO,tN]))
  (refine retK_of [0] ?_;push_cast [iO,tN])
  simp [tapeAt,hlt]
 ·repeat' (first |  (refine plc [] (fold_pure ((k:Int) * 7 % 11) n (by omega) (by omega) hn) ?_ ?_;push_cast [iO,tN];rintro r os ⟨rfl,rfl⟩;push_cast [iO,tN])  | ((first|refine pG ?_|refine pQ ?_|refine pU ?_);push_cast [iO,tN])|(refine pif (fun h=>?_) (fun h=>?_)<;>first|exact pN h|push_cast [iO,tN]))
  (refine retK_of [0] ?_;push_cast [iO,tN])
  simp [tapeAt,hlt]
def strD (s:ByteArray):List D:=[.v (.string s)]
attribute [push_cast] strD
def pick (L:List Int) (k:Nat) (l:List ByteArray):ByteArray:=l.getD (fold (tapeAt L k) l.length).toNat default
theorem fold_bds (v n:Int) (hn:0 < n):0≤fold v n∧fold v n < n:=by
 unfold fold
 have:=Int.lt_tmod_of_pos v (b:=n) hn
 have:=Int.tmod_lt_of_pos v (b:=n) hn
 split
 ·omega
 ·split<;>omega
theorem one_pure (L:List Int) (k:Nat) (l:List ByteArray) (hk:k < 1000000) (h0:0 < l.length) (hn:l.length≤1000000) (hL:∀ x ∈ L,-9223372036854775808≤x∧x≤9223372036854775807) (hl:L.length≤9223372036854775807) :
  PCalls Tryz.prog 16 [.c (.ptr 0 0),.c (.sl 1 (l.map strD))] [tape L k] fun r os=>r = .c (.v (.string (pick L k l)))∧os=[tape L (k+1)]:=by
 refine pcalls_of Tryz.func16 rfl (by simp [Tryz.ntmps16]) ?_
 rw [Tryz.ntmps16,Tryz.results16]
 obtain ⟨hb,hb'⟩:=fold_bds (tapeAt L k) l.length (by omega)
 push_cast [iO,tN]
 repeat' (first |  (refine plc [0] (next_pure L k l.length hk (by omega) hL hl) ?_ ?_;push_cast [iO,tN];rintro r os ⟨rfl,rfl⟩;push_cast [iO,tN])  | ((first|refine pG ?_|refine pQ ?_|refine pU ?_);push_cast [iO,tN])|(refine pif (fun h=>?_) (fun h=>?_)<;>first|exact pN h|push_cast [iO,tN]))
 (refine retK_of [0] ?_;push_cast [iO,tN])
 simp [pick,List.getD]
theorem next_ex (L:List Int) (k:Nat) (n:Int) (hk:k < 1000000) (h0:0 < n) (hn:n≤9223372036854775807) (hL:∀ x ∈ L,-9223372036854775808≤x∧x≤9223372036854775807) (hl:L.length≤9223372036854775807) :
  PCalls Tryz.prog 14 [.c (.ptr 0 0),.c (.v (.int .i64 n))] [tape L k] fun r os=>∃ v:Int,(0≤v∧v < n)∧r = .c (.v (.int .i64 v))∧os=[tape L (k+1)] :=
 (next_pure L k n hk hn hL hl).mono fun r os h=>⟨_,fold_bds _ _ h0,h.1,h.2⟩
theorem one_ex (L:List Int) (k:Nat) (l:List ByteArray) (hk:k < 1000000) (h0:0 < l.length) (hn:l.length≤1000000) (hL:∀ x ∈ L,-9223372036854775808≤x∧x≤9223372036854775807) (hl:L.length≤9223372036854775807) :
  PCalls Tryz.prog 16 [.c (.ptr 0 0),.c (.sl 1 (l.map strD))] [tape L k] fun r os=>∃ s,s ∈ l∧r = .c (.v (.string s))∧os=[tape L (k+1)] :=
 (one_pure L k l hk h0 hn hL hl).mono fun r os h=>⟨_,by
  have:=fold_bds (tapeAt L k) l.length (by omega)
  unfold pick
  rw [getD_lt _ (by omega)]
  exact List.getElem_mem _,h.1,h.2⟩
end Go.Proofs.YtgijigkfmbiifaaGreatDoor
namespace Go.Proofs.YtgijigkfmbiifaaGreatDoor
open Go.RowKit
open IntWalk renaming iteOmega → iO, toNatUp → tN
set_option linter.unusedVariables false
set_option linter.unusedSimpArgs false
structure Atr where
 name:ByteArray
 value:ByteArray
 deriving DecidableEq,Inhabited
def Atr.d (x:Atr):List D:=[.v (.string x.name),.v (.string x.value)]
attribute [push_cast] Atr.d
structure Dev where
 index:Int
 parent:Int
 name:ByteArray
 original:ByteArray
 subsystem:ByteArray
 driver:ByteArray
 alias_:ByteArray
 kind:Int
 number:Int
 attrs:List Atr
 deriving DecidableEq,Inhabited
def Dev.d (d:Dev):List D:=[.v (.int .i64 d.index),.v (.int .i64 d.parent),.v (.string d.name),.v (.string d.original),.v (.string d.subsystem),.v (.string d.driver),.v (.string d.alias_),.v (.int .i64 d.kind),.v (.int .i64 d.number),.sl 2 (d.attrs.map Atr.d)]
attribute [push_cast] Dev.d
abbrev Fit (s:ByteArray):Prop:=s.size≤9223372036854775807
theorem fit_of {s:ByteArray} {n:Nat} (h:s.size≤n) (hn:n≤1048576):Fit s:=Nat.le_trans h (Nat.le_trans hn (by decide))
structure Mod where
 name:ByteArray
 aliases:List ByteArray
 needs:List ByteArray
 pre:List ByteArray
 post:List ByteArray
 fails:Bool
 deriving DecidableEq,Inhabited
def Mod.d (m:Mod):List D:=[.v (.string m.name),.sl 1 (m.aliases.map strD),.sl 1 (m.needs.map strD),.sl 1 (m.pre.map strD),.sl 1 (m.post.map strD),.v (.bool m.fails)]
structure Ext2 where
 name:ByteArray
 value:ByteArray
 deriving DecidableEq,Inhabited
def Ext2.d (x:Ext2):List D:=[.v (.string x.name),.v (.string x.value)]
structure Cfg where
 modules:List Mod
 blocked:List ByteArray
 off:List ByteArray
 keep:List ByteArray
 extra:List Ext2
 deriving DecidableEq,Inhabited
def Cfg.d (c:Cfg):List D:=[.sl 6 (c.modules.map Mod.d),.sl 1 (c.blocked.map strD),.sl 1 (c.off.map strD),.sl 1 (c.keep.map strD),.sl 2 (c.extra.map Ext2.d)]
attribute [push_cast] Mod.d Ext2.d Cfg.d
def modOf (l:List Mod) (n:ByteArray):Option Mod:=l.find? fun m=>decide (m.name=n)
def noMod:Mod:=⟨⟨#[]⟩,[],[],[],[],false⟩
def Mod.e (m:Mod):List E:=m.d.map D.e
attribute [push_cast] Mod.e
end Go.Proofs.YtgijigkfmbiifaaGreatDoor
namespace Go.Proofs.YtgijigkfmbiifaaGreatDoor
attribute [local irreducible] PL QL PWPr PCalls Weak RetK Kontr
open Go.RowKit
open IntWalk renaming iteOmega → iO, toNatUp → tN
set_option linter.unusedVariables false
set_option linter.unusedSimpArgs false
set_option maxRecDepth 20000
theorem in_pure (l:List ByteArray) (s:ByteArray) (hl:l.length≤9223372036854775807) :
  PCalls Tryz.prog 11 [.c (.sl 1 (l.map strD)),.c (.v (.string s))] [] fun r os=>r = .c (.v (.bool (inM s l)))∧os=[]:=by
 refine pcalls_of Tryz.func11 rfl (by simp [Tryz.ntmps11]) ?_
 rw [Tryz.ntmps11,Tryz.results11]
 push_cast [iO,tN]
 repeat' (first|((first|refine pG ?_|refine pQ ?_|refine pU ?_);push_cast [iO,tN])|(refine pif (fun h=>?_) (fun h=>?_)<;>first|exact pN h|push_cast [iO,tN]))
 refine pwp_loop2 (α:=Nat) (fun k=>k≤l.length∧s ∉ l.take k) (fun k=>⟨[(5,.c (.v (.int .i64 k))),(0,.c (.sl 1 (l.map strD))),(1,.c (.v (.string s)))],[]⟩) (fun k=>l.length - k) 0 ⟨by omega,by simp⟩ (by (refine weak_fg ?_;push_cast [iO,tN])) ?_
 rintro k ⟨hk,hpre⟩
 by_cases hlt:k < l.length
 ·have e1:=getD_lt l hlt
  repeat' (first|((first|refine pG ?_|refine pQ ?_|refine pU ?_);push_cast [iO,tN])|(refine pif (fun h=>?_) (fun h=>?_)<;>first|exact pN h|push_cast [iO,tN]))
  ·(refine retK_of [] ?_;push_cast [iO,tN])
   rw [e1] at h
   subst h
   exact (inM_iff.2 (List.getElem_mem _)).symm
  ·refine ⟨k+1,⟨by omega,?_⟩,by (refine weak_fg ?_;push_cast [iO,tN]),by omega⟩
   rw [e1] at h
   rw [List.take_succ_eq_append_getElem hlt]
   simp only [List.mem_append,List.mem_singleton,not_or]
   exact ⟨hpre,fun e=>h e.symm⟩
 ·repeat' (first|((first|refine pG ?_|refine pQ ?_|refine pU ?_);push_cast [iO,tN])|(refine pif (fun h=>?_) (fun h=>?_)<;>first|exact pN h|push_cast [iO,tN]))
  (refine retK_of [] ?_;push_cast [iO,tN])
  rw [List.take_of_length_le (by omega)] at hpre
  exact (inM_false.2 hpre).symm
def putM (l:List ByteArray) (s:ByteArray):List ByteArray :=
 let i:=(l.takeWhile fun x=>bless x s).length
 if l.getD i default=s∧i < l.length then l else l.take i++s :: l.drop i
end Go.Proofs.YtgijigkfmbiifaaGreatDoor
namespace Go.Proofs.YtgijigkfmbiifaaGreatDoor
attribute [local irreducible] PL QL PWPr PCalls Weak RetK Kontr PA
open Go.RowKit
open IntWalk renaming iteOmega → iO, toNatUp → tN
set_option linter.unusedVariables false
set_option linter.unusedSimpArgs false
set_option maxRecDepth 20000
theorem clone_pure (l:List ByteArray) (hl:l.length≤1000000000) :
  PCalls Tryz.prog 18 [.c (.sl 1 (l.map strD))] [] fun r os=>r = .c (.own 0 l.length)∧os=[.arr 9 1 (l.map strD)]:=by
 refine pcalls_adopt (R:=fun r os=>(r = .c (.own 0 l.length)∧os=[.arr 9 1 (l.map strD)])∨(r = .c (.v (.slice none 0 0))∧os=[]∧l=[])) 9 1 (by omega) ?_ (by
  rintro r os (h|⟨rfl,rfl,rfl⟩)
  ·exact .inl h
  ·exact .inr ⟨rfl,rfl,rfl⟩)
 by_cases h0:l=[]
 ·subst h0
  refine pcalls_split0 (l1:=[]) (l2:=[]) fun A c=>?_
  cases A with
  | none =>
   refine PCalls.mono (R:=fun r os=>r = .c (.v (.slice none 0 0))∧os=[]) ?_ (fun r os h=>.inr ⟨h.1,h.2,rfl⟩)
   refine pcalls_of Tryz.func18 rfl (by simp [Tryz.ntmps18]) ?_
   rw [Tryz.ntmps18,Tryz.results18]
   push_cast [iO,tN]
   repeat' (first|((first|refine pG ?_|refine pQ ?_|refine pU ?_);push_cast [iO,tN])|(refine pif (fun h=>?_) (fun h=>?_)<;>first|exact pN h|push_cast [iO,tN]))
   (refine retK_of [] ?_;push_cast [iO,tN])
  | some a =>
   refine PCalls.mono (R:=fun r os=>r = .c (.own 0 0)∧os=[.arr 9 1 []]) ?_ (fun r os h=>.inl h)
   refine pcalls_of Tryz.func18 rfl (by simp [Tryz.ntmps18]) ?_
   rw [Tryz.ntmps18,Tryz.results18]
   push_cast [iO,tN]
   repeat' (first|((first|refine pG ?_|refine pQ ?_|refine pU ?_);push_cast [iO,tN])|(refine pif (fun h=>?_) (fun h=>?_)<;>first|exact pN h|push_cast [iO,tN]))
   (refine retK_of [0] ?_;push_cast [iO,tN])
 ·have h1:0 < l.length:=List.length_pos_iff.2 h0
  refine PCalls.mono (R:=fun r os=>r = .c (.own 0 l.length)∧os=[.arr 9 1 (l.map strD)]) ?_ (fun r os h=>.inl h)
  refine pcalls_of Tryz.func18 rfl (by simp [Tryz.ntmps18]) ?_
  rw [Tryz.ntmps18,Tryz.results18]
  push_cast [iO,tN]
  repeat' (first|((first|refine pG ?_|refine pQ ?_|refine pU ?_);push_cast [iO,tN])|(refine pif (fun h=>?_) (fun h=>?_)<;>first|exact pN h|push_cast [iO,tN]))
  (refine retK_of [0] ?_;push_cast [iO,tN])
end Go.Proofs.YtgijigkfmbiifaaGreatDoor
namespace Go.Proofs.YtgijigkfmbiifaaGreatDoor
open Go.RowKit
open IntWalk renaming iteOmega → iO, toNatUp → tN
set_option linter.unusedVariables false
set_option linter.unusedSimpArgs false
def allSome:List (Option PV) → List PV → Prop
 | [],[]=>True
 | some q :: l,r :: m=>leP q r∧allSome l m
 | _,_=>False
theorem allSome_ok {w:World} {Γ:G}:∀ {l:List (Option PV)} {m:List PV} {ys:List Value},allSome l m → All2 (fun q y=>∀ r,q=some r → RP w Γ r y) l ys → All2 (RP w Γ) m ys
 | [],[],_,_,h=>by rw [All2.nil_l] at h ⊢;exact h
 | some q :: l,r :: m,y :: ys,h,hr=>⟨leP_ok h.1 (hr.1 q rfl),allSome_ok h.2 hr.2⟩
 | some _ :: _,_ :: _,[],_,hr=>hr.elim
 | [],_ :: _,_,h,_=>h.elim
 | none :: _,_,_,h,_=>h.elim
 | some _ :: _,[],_,h,_=>h.elim
section
variable {P:Program} {N p:Nat} {ops:Array Oper} {rest:List Oper} {o:Oper} {s:S} {K:S → Prop}
theorem pl_call_all {f:Operand} {args:Array Operand} {tys:Array TypeId} {g:FuncId} {ds:List D} {cap:List Nat} {args':List PV} {R:PV → List Ob → Prop}
  (ho:o.op = .call ⟨.value f,args,tys⟩) (hg:gd ops s o.guard=some true) (hf:s.ev f=some (.c (.fn (.func g) ds cap))) (hb:bodyOk P g=true) (hd:dstOk N o.dst)
  (ha:allSome (callArgs s ds args.toList cap) args') (hc:PCalls P g args' s.o R)
  (hK:∀ r os'',R r os'' → PL P N p ops rest (S.put ⟨s.t,os''⟩ o.dst r) K):PL P N p ops (o :: rest) s K:=by
 intro Γ a w Q hA hQ
 obtain ⟨xs,ys,hfv,hargs⟩:=callArgs_ok hA.inv hf args
 have hseen:=allSome_ok ha hargs
 unfold wpListIn
 rw [if_pos (gd_ok hg hA.inv)]
 refine wpIn_enter (run_enter ho hfv hb) ?_
 have:=hc _ w _ hA.inv.m hseen
 rw [Array.toArray_toList] at this
 refine this.mono ?_
 rintro e w' ⟨r,os'',Γ',y,rfl,hR,hr,hlen,hm',hgr⟩
 have hle:p≤s.o.length:=by rw [← hA.inv.m.n];exact hA.le
 have hag:∀ j,j < Γ.n → Agree Γ Γ' j:=fun j hj=>by
  have hj':j < s.o.length:=by rw [← hA.inv.m.n];exact hj
  exact ⟨by rw [hm'.n];omega,(hgr.keep j hj').1,(hgr.keep j hj').2⟩
 have hI:=hA.inv.heap hm' (hgr.stay hA.inv.m) hag
 refine ⟨y,rfl,hK r os'' hR Γ' _ w' Q ⟨hI.put (dst_lt hd) hr,by rw [hm'.n];omega⟩ fun s' Γ2 a2 w2 hk hA2 hg2 hd2=>hQ s' Γ2 a2 w2 hk hA2 ?_ (hd2.trans (put_defers _ _ _))⟩
 have hgp:Grow p Γ w Γ' w':=⟨hgr.ext,hgr.sub,hgr.new,hgr.imm,fun k hk=>hgr.keep k (by omega)⟩
 exact hgp.trans hg2
theorem weak_slots {s':S} (ht:subT s s'.t) (ho:s'.o=s.o):Weak N p s s':=by
 intro Γ a w hA
 refine ⟨Γ,⟨⟨hA.inv.size,hA.inv.defers,fun i q hq=>?_,by rw [ho];exact hA.inv.m⟩,hA.le⟩,Grow.refl _ _ _⟩
 obtain ⟨r,hr,hle⟩:=subT_look ht hq
 obtain ⟨i1,i2⟩:=hA.inv.t i r hr
 exact ⟨i1,leP_ok hle i2⟩
end
theorem weak_seg {N p:Nat} {s:S} (i:Nat) {k n:Nat} (sz:Nat) (hi:s.get i=some (.c (.own k n))):Weak N p s ⟨(i,.c (.seg k sz 0 n)) :: s.t,s.o⟩:=by
 intro Γ a w hA
 refine ⟨Γ,⟨⟨hA.inv.size,hA.inv.defers,fun j q hq=>?_,hA.inv.m⟩,hA.le⟩,Grow.refl _ _ _⟩
 simp only [S.get,look] at hq
 split at hq
 ·rename_i e
  subst e
  cases hq
  obtain ⟨h1,h2,h3⟩:=hA.inv.t j _ hi
  refine ⟨h1,h2,?_⟩
  rcases h3 with ⟨_,⟨A,h4⟩,rfl⟩|⟨h4,h5,h6⟩
  ·exact ⟨A,0,h4,Nat.le_refl _,fun h=>absurd h (by omega)⟩
  ·exact ⟨_,_,h5,h6,fun _=>⟨h4,by omega,by simp⟩⟩
 ·exact hA.inv.t j q hq
def RetA (P:Program) (rs:List ResultVar) (p:Nat) (R:PV → List Ob → Prop) (s:S):Prop:=∃ r,resP P s rs=some r∧p≤s.o.length∧R r s.o
def RetQA (P:Program) (rs:List ResultVar) (p:Nat) (R:PV → List Ob → Prop):Exit → S → Prop
 | .normal,s=>RetA P rs p R s
 | .ret,s=>RetA P rs p R s
 | _,_=>False
theorem RetQA_normal (P:Program) (rs:List ResultVar) (p:Nat) (R:PV → List Ob → Prop) (s:S):RetQA P rs p R .normal s=RetA P rs p R s:=rfl
theorem RetQA_ret (P:Program) (rs:List ResultVar) (p:Nat) (R:PV → List Ob → Prop) (s:S):RetQA P rs p R .ret s=RetA P rs p R s:=rfl
attribute [push_cast] RetQA_normal RetQA_ret allSome
theorem pcalls_of_all {P:Program} {g:FuncId} {fn:Func} {c:Code} {args:List PV} {os:List Ob} {R:PV → List Ob → Prop} (hf:P.funcs[g]? = some fn) (hb:fn.body=some c) (hn:args.length≤fn.ntmps)
  (h:PWP P fn.ntmps os.length c (RetQA P fn.results.toList os.length R) ⟨parT 0 args,os⟩):PCalls P g args os R:=by
 refine calls_pwp (T:=RetA P fn.results.toList os.length R) hf hb hn (fun e s hq=>?_) (fun s' Γ Γ' a' w w' ht hI hg=>?_) h
 ·cases e with
  | normal=>exact ⟨.inl rfl,hq⟩
  | ret=>exact ⟨.inr rfl,hq⟩
  | exit j=>exact hq.elim
  | goto l=>exact hq.elim
  | panic ch=>exact hq.elim
  | outgrown=>exact hq.elim
 ·obtain ⟨r,h1,h2,h3⟩:=ht
  obtain ⟨y,h8,h9⟩:=resP_ok hI h1
  exact ⟨y,h8,r,s'.o,Γ',h3,h9,h2,hI.m,hg⟩
theorem Inv.fresh {N:Nat} {Γ:G} {s:S} {a:Act} {w:World} (h:Inv N Γ s a w) {d:Nat} {y:Value} (hd:s.get d=none):Inv N Γ s (a.put (some d) y) w:=by
 refine ⟨by simpa [Act.put] using h.size,h.defers,fun i q' hi=>?_,h.m⟩
 have e:i≠d:=fun e=>by rw [e,hd] at hi;cases hi
 obtain ⟨h1,h2⟩:=h.t i q' hi
 have h3:(a.put (some d) y).tmps.getD i Go.undef=a.tmps.getD i Go.undef:=by
  simp only [Act.put]
  rw [Array.getD_eq_getD_getElem?,Array.getD_eq_getD_getElem?,Array.getElem?_setIfInBounds_ne (fun e'=>e e'.symm)]
 rw [h3]
 exact ⟨h1,h2⟩
theorem put_get {N:Nat} {Γ:G} {s:S} {a:Act} {w:World} (h:Inv N Γ s a w) {d:Nat} (y:Value) (hd:d < N):(a.put (some d) y).eval (.tmp d)=y:=by
 have:d < a.tmps.size:=by rw [h.size];exact hd
 simp [Act.put,Act.eval,this]
theorem entry_pair {P:Program} {t kt e:TypeId} {kk:Option IntKind} {w:World} {b:Nat} {ms:Array MapEntry} {ck:Nat} {key:MK} {x:Value} {es:List (MK × List D)} {I:Nat → Prop} {ag:Bool}
  (hu:P.underlying t=some (.map kt e)) (hku:P.underlying kt=some (descOf kk)) (hc:key.kind=kk) (hz:∃ z,∀ w,(zeroValue e).run P w = .ok z w) (hb:w.heap[b]? = some (.map ms ck)) (hM:RM w I kk ag es ms.toList ck) :
  ∃ (w1 w2:World) (v:Value) (st:Int),(Instr.mapEntry t (.map (some b)) key.v).run P w = .ok (.tuple #[v,.int .i64 st]) w1∧(Instr.entryStore t (.map (some b)) (.int .i64 st) x).run P w1 = .ok () w2∧(Instr.mapUpdate t (.map (some b)) key.v x).run P w = .ok () w2:=by
 obtain ⟨z,hz⟩:=hz
 have hbn:(ms.toList.map MapEntry.born).Nodup:=hM.born.imp fun h=>Nat.ne_of_lt h
 rcases find_ok hc es ms.toList 0 hM.rows hM.kind with ⟨g1,g2,g3,g4⟩|⟨j,e0,m0,g1,g2,g3,g3',g5,g6,g7,g8⟩
 ·have hb1:({ w with heap:=w.heap.setIfInBounds b (.map (ms.push { key:=key.v,val:=z,born:=ck }) (ck+1)) }:World).heap[b]? = some (.map (ms.push { key:=key.v,val:=z,born:=ck }) (ck+1)):=(MapKept.heap_set hb).1
  refine ⟨{ w with heap:=w.heap.setIfInBounds b (.map (ms.push { key:=key.v,val:=z,born:=ck }) (ck+1)) },{ w with heap:=w.heap.setIfInBounds b (.map (ms.push { key:=key.v,val:=x,born:=ck }) (ck+1)) },z,ck,?_,?_,?_⟩
  ·simp [Instr.mapEntry,run_underlying hu,hz,MapKept.run_getObj_map hb,MapKept.run_checkKey hku (mk_isKey hc),MapKept.run_findKey hku g4,MapKept.run_setObj_map _ hb,goInt]
  ·have hidx:(ms.push { key:=key.v,val:=z,born:=ck }).findIdx? (fun e=>((e.born:Nat):Int) == ((ck:Nat):Int))=some ms.size:=by
    rw [WideElems.findIdx_arr]
    exact WideElems.findIdx_born (l:=(ms.push { key:=key.v,val:=z,born:=ck }).toList) (j:=ms.size) (e0:={ key:=key.v,val:=z,born:=ck }) (by
     simp only [Array.toList_push,List.map_append,List.map_cons,List.map_nil]
     refine List.nodup_append.2 ⟨hbn,by simp,fun a ha c hc e1=>?_⟩
     simp only [List.mem_singleton] at hc
     have:=hM.clock a ha
     omega) (by simp)
   have hmod:(ms.push { key:=key.v,val:=z,born:=ck }).modify ms.size (fun e=>{ e with val:=x })=ms.push { key:=key.v,val:=x,born:=ck }:=by
    apply Array.ext'
    rw [Array.toList_modify,Array.toList_push,Array.toList_push,← Array.length_toList,WideElems.modify_last]
   simp [Instr.entryStore,MapKept.run_getObj_map hb1,asInt,asIntOf,hidx,hmod,MapKept.run_setObj_map _ hb1]
  ·simp [Instr.mapUpdate,run_underlying hu,MapKept.run_getObj_map hb,MapKept.run_checkKey hku (mk_isKey hc),MapKept.run_findKey hku g4,MapKept.run_setObj_map _ hb]
 ·have hj:ms[j]? = some m0:=by simpa using g2
  have hsame:ms.modify j (fun e=>{ e with key:=key.v })=ms:=by
   apply Array.ext'
   rw [Array.toList_modify,List.modify_eq_set,g2,← g3']
   exact list_set_self g2
  have hb1:({ w with heap:=w.heap.setIfInBounds b (.map ms ck) }:World).heap[b]? = some (.map ms ck):=(MapKept.heap_set hb).1
  refine ⟨{ w with heap:=w.heap.setIfInBounds b (.map ms ck) },{ w with heap:=w.heap.setIfInBounds b (.map (ms.modify j fun e=>{ e with key:=key.v,val:=x }) ck) },m0.val,m0.born,?_,?_,?_⟩
  ·simp [Instr.mapEntry,run_underlying hu,MapKept.run_getObj_map hb,MapKept.run_checkKey hku (mk_isKey hc),MapKept.run_findKey hku g8,hj,g3',MapKept.run_keyThatStays (mk_isKey hc),hsame,MapKept.run_setObj_map _ hb,goInt]
  ·have hidx:ms.findIdx? (fun e=>((e.born:Nat):Int) == ((m0.born:Nat):Int))=some j:=by
    rw [WideElems.findIdx_arr]
    exact WideElems.findIdx_born hbn g2
   have hmod:ms.modify j (fun e=>{ e with val:=x })=ms.modify j (fun e=>{ e with key:=key.v,val:=x }):=by
    apply Array.ext'
    rw [Array.toList_modify,Array.toList_modify,List.modify_eq_set,List.modify_eq_set,g2,← g3']
    rfl
   simp [Instr.entryStore,MapKept.run_getObj_map hb1,asInt,asIntOf,hidx,hmod,MapKept.run_setObj_map _ hb1]
  ·simp [Instr.mapUpdate,run_underlying hu,MapKept.run_getObj_map hb,MapKept.run_checkKey hku (mk_isKey hc),MapKept.run_findKey hku g8,hj,g3',MapKept.run_keyThatStays (mk_isKey hc),MapKept.run_setObj_map _ hb]
section
variable {P:Program} {N p:Nat} {ops:Array Oper} {s:S} {K:S → Prop} {fuel:Nat} {listed:Array Bool}
theorem any_step {Q:Exit → Act → World → Prop} {a:Act} {w:World} (i:Nat) {o:Oper} (hr:Region.ready .any ops listed=[i]) (ho:ops[i]? = some o) (hw:Region.wanted o (yielded ops a.tmps)=true)
  (h:o.wpIn (Fw none) 0 P a w (wpAnyIn (Fw none) 0 P .any ops Q fuel (listed.setIfInBounds i true)) Q):wpAnyIn (Fw none) 0 P .any ops Q (fuel+1) listed a w:=by
 refine ⟨fun h0=>(by rw [hr] at h0;cases h0),fun j hj=>?_⟩
 rw [hr,List.mem_singleton] at hj
 subst hj
 unfold wpOpIn
 rw [ho]
 simp only []
 rw [if_pos hw]
 exact h
def entK (P:Program) (N p:Nat) (ops:Array Oper) (fuel:Nat) (listed:Array Bool) (K:S → Prop) (t:List (Nat × PV)):Option (PV × List Ob) → Prop
 | some (_,os)=>PA P N p ops fuel listed ⟨t,os⟩ K
 | none=>False
attribute [push_cast] entK
theorem pa_entry (i1 i2 i3:Nat) {t:TypeId} {mi d1 d2 k:Nat} {x y:Operand} {key:MK} {o1 o2 o3:Oper} {kk0:Option IntKind} {e0:TypeId} {cs0:List E}
  (h1:ops[i1]? = some o1) (h2:ops[i2]? = some o2) (h3:ops[i3]? = some o3)
  (r1:Region.ready .any ops listed=[i1]) (r2:Region.ready .any ops (listed.setIfInBounds i1 true)=[i2]) (r3:Region.ready .any ops ((listed.setIfInBounds i1 true).setIfInBounds i2 true)=[i3])
  (e1:o1.op = .mapEntry t (.tmp mi) x∧o1.dst=some d1∧o1.guard=none) (e2:o2.op = .extract (.tmp d1) 1∧o2.dst=some d2∧o2.guard=none) (e3:o3.op = .entryStore t (.tmp mi) (.tmp d2) y∧o3.dst=none∧o3.guard=none)
  (hd1:d1 < N) (hd2:d2 < N) (hm:s.get mi=some (.c (.mp k))) (hx:keyP (s.ev x)=some key) (g1:s.get d1=none) (g2:s.get d2=none)
  (hmp0:mpOf P t=some (kk0,e0)) (hz:zerOf P e0=some cs0) (hy:∀ a a':Act,a.eval y=a'.eval y)
  (hk0:entK P N p ops fuel (((listed.setIfInBounds i1 true).setIfInBounds i2 true).setIfInBounds i3 true) K s.t (updP P s.o t (s.ev (.tmp mi)) (s.ev x) (s.ev y))):PA P N p ops (fuel+3) listed s K:=by
 cases hupd:updP P s.o t (s.ev (.tmp mi)) (s.ev x) (s.ev y) with
 | none=>rw [hupd] at hk0;exact hk0.elim
 | some qo =>
 obtain ⟨q,os⟩:=qo
 rw [hupd] at hk0
 have hk:PA P N p ops fuel (((listed.setIfInBounds i1 true).setIfInBounds i2 true).setIfInBounds i3 true) ⟨s.t,os⟩ K:=hk0
 intro Γ a w Q hA hK
 have hI:=hA.inv
 have hu2:=hupd
 have hmv:=S.ev_ok (x:=.tmp mi) hm hI
 obtain ⟨_,hmv⟩:=hmv
 have hxv:=keyP_ok hx hI
 unfold updP at hu2
 rw [show s.ev (.tmp mi)=some (.c (.mp k)) from hm] at hu2
 dsimp only at hu2
 rw [hx] at hu2
 split at hu2
 ·rename_i key' kk e kk' ag es hkey hmp hob
  cases hkey
  split at hu2
  ·rename_i row hrow
   split at hu2
   ·rename_i hc
    obtain ⟨hc1,rfl⟩:=hc
    obtain ⟨kt,hu,hku⟩:=mp_run hmp
    obtain ⟨h0,ms,ck,hb,hM⟩:=hI.m.ob k _ hob
    have hzz:∃ z,∀ w,(zeroValue e).run P w = .ok z w:=by
     rw [hmp0] at hmp
     cases hmp
     obtain ⟨i,v,hi,hv,_⟩:=zer_ok hz
     exact ⟨v,fun w=>by simp [zeroValue,typeInfo,hi,hv]⟩
    obtain ⟨w1,w2,v,st,p1,p2,p3⟩:=entry_pair (x:=a.eval y) hu hku hc1 hzz hb hM
    let o':Oper:={ o3 with op:=.mapUpdate t (.tmp mi) x y,dst:=none }
    obtain ⟨y',w',Γ',hrun,hrp,hinv,hgr⟩:=upd_ok (N:=N) (p:=p) (o:=o') rfl hupd hI
    have hw':w'=w2:=by
     have:(execOp a.eval o').run P w = .ok .skip w2:=by simp only [execOp,o',Sem.run_bind,hmv,hxv,p3,Result.andThen_ok,Sem.run_pure]
     rw [this] at hrun
     rcases hrun with h|⟨h,_⟩
     ·cases h
     ·cases h;rfl
    subst hw'
    have a1:Inv N Γ s (a.put (some d1) (.tuple #[v,.int .i64 st])) w:=hI.fresh g1
    have a2:Inv N Γ s ((a.put (some d1) (.tuple #[v,.int .i64 st])).put (some d2) (.int .i64 st)) w:=a1.fresh g2
    have wnt:∀ (a':Act) (o:Oper),o.guard=none → Inv N Γ s a' w → Region.wanted o (yielded ops a'.tmps)=true:=fun a' o hg hI'=>gd_ok (s:=s) (by rw [hg];rfl) hI'
    refine any_step i1 r1 h1 (wnt a o1 e1.2.2 hI) ?_
    have run1:(execOp a.eval o1).run P w = .ok (.value (.tuple #[v,.int .i64 st])) w1:=by simp only [execOp,e1.1,Sem.run_bind,hmv,hxv,p1,Result.andThen_ok,Sem.run_pure]
    refine wpIn_run run1 ?_
    simp only [Oper.uponIn]
    rw [e1.2.1]
    refine any_step i2 r2 h2 (wnt _ o2 e2.2.2 a1) ?_
    have run2:(execOp (a.put (some d1) (.tuple #[v,.int .i64 st])).eval o2).run P w1 = .ok (.value (.int .i64 st)) w1:=by simp [execOp,e2.1,put_get hI _ hd1,Instr.extract]
    refine wpIn_run run2 ?_
    simp only [Oper.uponIn]
    rw [e2.2.1]
    refine any_step i3 r3 h3 (wnt _ o3 e3.2.2 a2) ?_
    have m2:=(S.ev_ok (x:=.tmp mi) hm a2).2
    have run3:(execOp ((a.put (some d1) (.tuple #[v,.int .i64 st])).put (some d2) (.int .i64 st)).eval o3).run P w1 = .ok .skip w':=by
     simp only [execOp,e3.1,Sem.run_bind,m2,put_get a1 _ hd2,hy _ a,p2,Result.andThen_ok,Sem.run_pure]
    refine wpIn_run run3 ?_
    simp only [Oper.uponIn]
    rw [e3.2.1]
    have hl:s.o.length≤os.length:=len_upd hupd
    have b1:=(hinv.fresh (d:=d1) (y:=.tuple #[v,.int .i64 st]) g1).fresh (d:=d2) (y:=.int .i64 st) g2
    exact hk Γ' _ w' Q ⟨b1,by have:=hA.le;rw [hI.m.n] at this;rw [hinv.m.n];exact Nat.le_trans this hl⟩ fun s' Γ2 a2 w2 hk' hA2 hg2 hd2=>hK s' Γ2 a2 w2 hk' hA2 (hgr.trans hg2) (hd2.trans ((put_defers _ _ _).trans ((put_defers _ _ _).trans (put_defers _ _ _))))
   ·cases hu2
  ·cases hu2
 ·cases hu2
end
section
variable {P:Program} {N p:Nat} {ops:Array Oper} {rest:List Oper} {o:Oper} {s:S} {K:S → Prop}
theorem set_two:∀ (arr:Array Value),arr.size=2 → ∀ x y:Value,(arr.setIfInBounds 0 x).setIfInBounds 1 y = #[x,y]
 | ⟨[]⟩,h,_,_=>by simp at h
 | ⟨[_]⟩,h,_,_=>by simp at h
 | ⟨[_,_]⟩,_,_,_=>by simp
 | ⟨_ :: _ :: _ :: _⟩,h,_,_=>by simp at h
theorem pl_fns {t e:TypeId} {x0 x1:Operand} {c0 c1 z:E} (ho:o.op = .buildSlice t 2 #[(0,x0),(1,x1)]) (hg:gd ops s o.guard=some true) (hel:elOf P t=some (e,1)) (hz:zerOf P e=some [z])
  (h0:s.ev x0=some (.c c0)) (h1:s.ev x1=some (.c c1)) (hd:dstOk N o.dst) (hK:PL P N p ops rest (S.put ⟨s.t,s.o++[.box e [c0,c1]]⟩ o.dst (.c (.seg s.o.length 1 0 2))) K):PL P N p ops (o :: rest) s K:=by
 refine pl_heap (q:=.c (.seg s.o.length 1 0 2)) (os:=s.o++[.box e [c0,c1]]) hg (fun Γ a w hA=>?_) (by simp) hd hK
 obtain ⟨hu,hsz'⟩:=el_run hel
 have hI:=hA.inv
 have r0:=S.ev_ok h0 hI
 have r1:=S.ev_ok h1 hI
 have k0:=one_cells (RE.one r0)
 have k1:=one_cells (RE.one r1)
 have hE:Ext No w (w.alloc (.cells #[a.eval x0,a.eval x1] e)):=(Ext.refl No w).alloc _
 have hS:=Same.of_ext hE
 have hag:=push_agree Γ w.heap.size 2
 have hn:=hI.m.n
 have hm:MemOk (Γ.push w.heap.size 2) (s.o++[.box e [c0,c1]]) (w.alloc (.cells #[a.eval x0,a.eval x1] e)):=by
  refine hI.m.push hS _ _ _ ⟨by simp [G.push,upd_same],[a.eval x0,a.eval x1],?_,?_,.inl (by simp [G.push,upd_same])⟩ (fun _=>Nat.le_refl _)
  ·simp only [G.push,upd_same];exact Blk.new w e #[a.eval x0,a.eval x1]
  ·have hx:All2 (RE w Γ) [c0,c1] [a.eval x0,a.eval x1]:=⟨r0,r1,trivial⟩
   exact re_stay hx (hS.stay Γ.I) fun k hk=>hag k (re_lt hx k hk)
 obtain ⟨ie,zv,hie,hzz,hzr⟩:=zer_ok hz
 have hzs:zv.cells.size=1:=by have:=(hzr w Γ).length;simpa using this.symm
 have hies:ie.size=1:=by obtain ⟨i',hi',e'⟩:=Option.map_eq_some_iff.1 hsz';rw [hie] at hi';cases hi';exact e'
 have hrun:(execOp a.eval o).run P w = .ok (.value (.slice (some ⟨w.heap.size,0,none⟩) 2 2)) (w.alloc (.cells #[a.eval x0,a.eval x1] e)):=by
  have hb:=run_buildSlice (P:=P) w t e 2 #[(0,a.eval x0),(1,a.eval x1)] #[a.eval x0,a.eval x1] ie zv hu hie hzz (by rw [hies];decide) (by rw [hies];decide) (by
   rw [hies]
   simp [Instr.fill,k0,k1]
   exact set_two _ (by simp) _ _)
  simp only [execOp,ho,Sem.run_bind]
  have hp:(#[(0,x0),(1,x1)]:Array (Nat × Operand)).map (fun (i,x)=>(i,a.eval x)) = #[(0,a.eval x0),(1,a.eval x1)]:=by simp
  rw [hp,hb]
  simp only [Result.andThen_ok,Sem.run_pure]
 refine ⟨_,_,Γ.push w.heap.size 2,.inl hrun,⟨by simp [G.push,hn],some ⟨w.heap.size,0,none⟩,2,rfl,Nat.le_refl _,fun _=>?_⟩,hI.heap hm (hS.stay Γ.I) hag,grow_push hI.m hE _ _ (fun _=>Nat.le_refl _) hA.le⟩
 simp [G.push,← hn,upd_same]
end
theorem weak_optr {N p:Nat} {s:S} (i:Nat) {k r:Nat} (hi:s.get i=some (.c (.orow k 1 r 0))):Weak N p s ⟨(i,.c (.ptr k r)) :: s.t,s.o⟩:=by
 intro Γ a w hA
 refine ⟨Γ,⟨⟨hA.inv.size,hA.inv.defers,fun j q hq=>?_,hA.inv.m⟩,hA.le⟩,Grow.refl _ _ _⟩
 simp only [S.get,look] at hq
 split at hq
 ·rename_i e
  subst e
  cases hq
  obtain ⟨h1,h2,h3⟩:=hA.inv.t j _ hi
  exact ⟨h1,h2,by rw [h3];simp⟩
 ·exact hA.inv.t j q hq
theorem pwp_label {rd:Option Nat} {P:Program} {N p l:Nat} {Q:Exit → S → Prop} {s:S} (h:Q .normal s):PWPr rd P N p (.label l) Q s:=fun z Γ a w hA hD=>wpIn_label ⟨s,Γ,h,hA,Grow.refl _ _ _,hD⟩
def leD:D → D → Prop
 | .v x,.v y=>x=y
 | .v x,.sl _ l=>isEmp x=true∧l=[]
 | .sl sz l,.sl sz' l'=>sz=sz'∧l=l'
 | _,_=>False
def leDs:List D → List D → Prop
 | [],[]=>True
 | a :: l,b :: m=>leD a b∧leDs l m
 | _,_=>False
theorem leD_ok {w:World} {I:Nat → Prop} {d d':D} {y:Value} (h:leD d d') (hr:RD w I d y):RD w I d' y:=by
 cases d with
 | v x =>
  cases d' with
  | v z=>obtain rfl:x=z:=h;exact hr
  | sl sz l =>
   obtain ⟨h,rfl⟩:=h
   obtain ⟨A,c,rfl⟩:=isEmp_ok h
   rw [RD] at hr
   rw [rd_sl,hr.1]
   exact ⟨A,c,[],rfl,Nat.zero_le _,Rd.nil,by simp,trivial⟩
 | sl sz l =>
  cases d' with
  | v z=>exact h.elim
  | sl sz' l'=>obtain ⟨rfl,rfl⟩:=h;exact hr
theorem leDs_ok {w:World} {I:Nat → Prop}:∀ {r r':List D} {ys:List Value},leDs r r' → All2 (RD w I) r ys → All2 (RD w I) r' ys
 | [],[],_,_,hr=>hr
 | a :: l,b :: m,y :: ys,h,hr=>⟨leD_ok h.1 hr.1,leDs_ok h.2 hr.2⟩
 | _ :: _,_ :: _,[],_,hr=>hr.elim
 | [],_ :: _,_,h,_=>h.elim
 | _ :: _,[],_,h,_=>h.elim
theorem leDs_length:∀ {r r':List D},leDs r r' → r.length=r'.length
 | [],[],_=>rfl
 | a :: l,b :: m,h=>by simp [leDs_length h.2]
 | [],_ :: _,h=>h.elim
 | _ :: _,[],h=>h.elim
attribute [push_cast] leD leDs
theorem weak_last {N p:Nat} {s:S} (k:Nat) {el:TypeId} {sz:Nat} {pre:List (List D)} {r:List D} (r':List D) (hk:s.o[k]? = some (.arr el sz (pre++[r]))) (h:leDs r r'):Weak N p s ⟨s.t,setO s.o k (.arr el sz (pre++[r']))⟩:=by
 intro Γ a w hA
 have hm:=hA.inv.m
 have hkl:k < s.o.length:=(List.getElem?_eq_some_iff.1 hk).1
 refine ⟨Γ,⟨⟨hA.inv.size,hA.inv.defers,hA.inv.t,⟨by simp [setO,hm.n],fun j o ho=>?_,hm.sep,hm.off,hm.lt,hm.pin⟩⟩,hA.le⟩,Grow.refl _ _ _⟩
 simp only [setO] at ho
 by_cases e:k=j
 ·subst e
  rw [List.getElem?_set_self hkl] at ho
  cases ho
  obtain ⟨g1,g2,g3,g4⟩:=hm.ob k _ hk
  refine ⟨fun x hx=>?_,g2,fun h=>absurd (g3 h) (by simp),fun hc=>?_⟩
  ·rcases List.mem_append.1 hx with hx|hx
   ·exact g1 x (by simp [hx])
   ·simp at hx;subst hx;rw [← leDs_length h];exact g1 r (by simp)
  obtain ⟨cur,b1,b2,b3,b4,b5⟩:=g4 hc
  refine ⟨cur,b1,b2,by simpa using b3,b4,?_⟩
  have e2:(pre++[r']).length=(pre++[r]).length:=by simp
  rw [e2]
  rw [List.flatten_append] at b5 ⊢
  obtain ⟨x1,x2,hx,h1,h2⟩:=b5.split
  rw [hx]
  refine h1.append ?_
  simp only [List.flatten_cons,List.flatten_nil,List.append_nil] at h2 ⊢
  exact leDs_ok h h2
 ·rw [List.getElem?_set_ne e] at ho
  exact hm.ob j o ho
def leRows:List (List D) → List (List D) → Prop
 | [],[]=>True
 | a :: l,b :: m=>leDs a b∧leRows l m
 | _,_=>False
theorem leRows_ok {w:World} {I:Nat → Prop}:∀ {r r':List (List D)} {ys:List Value},leRows r r' → All2 (RD w I) r.flatten ys → All2 (RD w I) r'.flatten ys
 | [],[],_,_,hr=>hr
 | a :: l,b :: m,ys,h,hr=>by
  simp only [List.flatten_cons] at hr ⊢
  obtain ⟨x,y,rfl,h1,h2⟩:=hr.split
  exact (leDs_ok h.1 h1).append (leRows_ok h.2 h2)
 | [],_ :: _,_,h,_=>h.elim
 | _ :: _,[],_,h,_=>h.elim
theorem leRows_length:∀ {r r':List (List D)},leRows r r' → r.length=r'.length
 | [],[],_=>rfl
 | a :: l,b :: m,h=>by simp [leRows_length h.2]
 | [],_ :: _,h=>h.elim
 | _ :: _,[],h=>h.elim
theorem leRows_mem {sz:Nat}:∀ {r r':List (List D)},leRows r r' → (∀ x ∈ r,x.length=sz) → ∀ x ∈ r',x.length=sz
 | [],[],_,_,x,hx=>by simp at hx
 | a :: l,b :: m,h,hr,x,hx=>by
  rcases List.mem_cons.1 hx with rfl|hx
  ·rw [← leDs_length h.1];exact hr a (by simp)
  ·exact leRows_mem h.2 (fun y hy=>hr y (by simp [hy])) x hx
 | [],_ :: _,h,_,_,_=>h.elim
 | _ :: _,[],h,_,_,_=>h.elim
attribute [push_cast] leRows
theorem weak_rows {N p:Nat} {s:S} (i:Nat) {sz:Nat} {l:List (List D)} (l':List (List D)) (hi:s.get i=some (.c (.full sz l))) (h:leRows l l'):Weak N p s ⟨(i,.c (.sl sz l')) :: s.t,s.o⟩:=by
 intro Γ a w hA
 refine ⟨Γ,⟨⟨hA.inv.size,hA.inv.defers,fun j q hq=>?_,hA.inv.m⟩,hA.le⟩,Grow.refl _ _ _⟩
 simp only [S.get,look] at hq
 split at hq
 ·rename_i e
  subst e
  cases hq
  obtain ⟨h1,h2,_⟩:=hA.inv.t j _ hi
  refine ⟨h1,?_⟩
  obtain ⟨A,c,xs,h3,h4,h5,h6,h7⟩:=rd_sl.1 h2
  show RD w Γ.I (.sl sz l') _
  rw [rd_sl,h3]
  have hl:=leRows_length h
  exact ⟨A,c,xs,by rw [hl],by omega,by rw [← hl];exact h5,leRows_mem h h6,leRows_ok h h7⟩
 ·exact hA.inv.t j q hq
end Go.Proofs.YtgijigkfmbiifaaGreatDoor
