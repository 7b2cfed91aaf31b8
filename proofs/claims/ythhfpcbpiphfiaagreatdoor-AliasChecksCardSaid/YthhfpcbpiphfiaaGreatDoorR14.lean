/- What the program computes, and the plain laws of it, part 14. -/
import Derived.Test.YthhfpcbpiphfiaaGreatDoorRows
import Derived.WideKeyEntry
import Derived.Test.YthhfpcbpiphfiaaGreatDoorR13
namespace Go.Proofs.YthhfpcbpiphfiaaGreatDoor
open Go.RowKit
open IntWalk renaming iteOmega → iO, toNatUp → tN
set_option linter.unusedVariables false
set_option linter.unusedSimpArgs false
theorem pcalls_split0 {P:Program} {g:FuncId} {l1 l2:List PV} {sz:Nat} {os:List Ob} {R:PV → List Ob → Prop} (h:∀ A c,PCalls P g (l1++.c (.v (.slice A 0 c)) :: l2) os R):PCalls P g (l1++.c (.sl sz []) :: l2) os R:=by
 intro Γ w xs hm hx
 obtain ⟨a,b,rfl,h1,h2⟩:=hx.split
 obtain ⟨y,m,rfl,h3,h4⟩:=All2.cons_l.1 h2
 obtain ⟨A,c,xs',hy,_⟩:=rd_sl.1 h3
 exact h A c Γ w _ hm (h1.append ⟨⟨hy,rfl⟩,h4⟩)
theorem pcalls_adopt {P:Program} {g:FuncId} {args:List PV} {os:List Ob} {R R':PV → List Ob → Prop} (el:TypeId) (sz:Nat) (hsz:0 < sz) (h:PCalls P g args os R)
  (hR:∀ r os',R r os' → R' r os'∨(r = .c (.v (.slice none 0 0))∧R' (.c (.own os'.length 0)) (os'++[.arr el sz []]))):PCalls P g args os R':=by
 intro Γ w xs hm hx
 refine (h Γ w xs hm hx).mono ?_
 rintro e w' ⟨r,os',Γ',y,rfl,h2,h3,h4,h5,h6⟩
 rcases hR r os' h2 with h7|⟨rfl,h7⟩
 ·exact ⟨r,os',Γ',y,rfl,h7,h3,h4,h5,h6⟩
 ·have hS:=Same.refl w'
  have hm2:MemOk (Γ'.push 0 0) (os'++[.arr el sz []]) w':=h5.push hS _ 0 0 ⟨by simp,hsz,fun _=>rfl,fun h=>absurd h (by simp [G.push,upd_same])⟩ (fun h=>absurd h (by omega))
  have hn:=h5.n
  refine ⟨_,_,Γ'.push 0 0,y,rfl,h7,⟨by simp [G.push,hn],.inl ⟨by rw [← hn];simp [G.push,upd_same],⟨none,h3.1⟩,rfl⟩⟩,by simp;omega,hm2,?_⟩
  exact h6.trans (grow_push h5 (Ext.refl No w') 0 0 (fun h=>absurd h (by omega)) (by rw [hn];exact h4))
theorem weak_trim {N p:Nat} {s:S} (k n:Nat) {el:TypeId} {sz:Nat} {rows:List (List D)} (hk:s.o[k]? = some (.arr el sz rows)):Weak N p s ⟨s.t,setO s.o k (.arr el sz (rows.take n))⟩:=by
 intro Γ a w hA
 have hm:=hA.inv.m
 have hkl:k < s.o.length:=(List.getElem?_eq_some_iff.1 hk).1
 refine ⟨Γ,⟨⟨hA.inv.size,hA.inv.defers,hA.inv.t,⟨by simp [setO,hm.n],fun j o ho=>?_,hm.sep,hm.off,hm.lt,hm.pin⟩⟩,hA.le⟩,Grow.refl _ _ _⟩
 simp only [setO] at ho
 by_cases e:k=j
 ·subst e
  rw [List.getElem?_set_self hkl] at ho
  cases ho
  obtain ⟨g1,g2,g3,g4⟩:=hm.ob k _ hk
  refine ⟨fun r hr=>g1 r (List.mem_of_mem_take hr),g2,fun h=>by rw [g3 h];simp,fun hc=>?_⟩
  obtain ⟨cur,b1,b2,b3,b4,b5⟩:=g4 hc
  refine ⟨cur,b1,b2,by rw [List.length_take];omega,b4,?_⟩
  rcases Nat.lt_or_ge rows.length n with h|h
  ·rw [List.take_of_length_le (by omega)];exact b5
  ·have:=b5.take (n * sz)
   rw [take_rows g1 h,List.take_take,Nat.min_eq_left (Nat.mul_le_mul_right _ h)] at this
   rw [List.length_take,Nat.min_eq_left h]
   exact this
 ·rw [List.getElem?_set_ne e] at ho
  exact hm.ob j o ho
def inM (s:ByteArray) (l:List ByteArray):Bool:=l.any fun x=>decide (x=s)
theorem inM_iff {s:ByteArray} {l:List ByteArray}:inM s l=true ↔ s ∈ l:=by
 simp only [inM,List.any_eq_true,decide_eq_true_eq]
 exact ⟨fun ⟨x,h,e⟩=>e ▸ h,fun h=>⟨s,h,rfl⟩⟩
theorem inM_false {s:ByteArray} {l:List ByteArray}:inM s l=false ↔ s ∉ l:=by rw [← inM_iff];simp
theorem inM_cons (s a:ByteArray) (l:List ByteArray):inM s (a :: l)=(decide (a=s) || inM s l):=rfl
def setE (l:List ByteArray):List (MK × List D):=l.map fun s=>(.s s,[.v (.bool true)])
def addS (l:List ByteArray) (s:ByteArray):List ByteArray:=if inM s l=true then l else l++[s]
theorem mget_set (s:ByteArray):∀ l:List ByteArray,mget (setE l) (.s s)=if inM s l=true then some [.v (.bool true)] else none
 | []=>rfl
 | a :: l=>by
  have ih:=mget_set s l
  simp only [setE,List.map_cons,mget,MK.s.injEq,inM_cons] at ih ⊢
  by_cases h:a=s
  ·simp [h]
  ·rw [if_neg h,ih]
   simp [h]
theorem mput_set (s:ByteArray):∀ l:List ByteArray,mput (setE l) (.s s) [.v (.bool true)]=setE (addS l s)
 | []=>rfl
 | a :: l=>by
  have ih:=mput_set s l
  by_cases h:a=s
  ·subst h;simp [setE,mput,addS,inM_cons]
  ·cases hm:inM s l
   ·simp only [setE,List.map_cons,mput,MK.s.injEq,h,if_false,addS,hm,inM_cons,decide_false,Bool.false_or,Bool.false_eq_true,List.map_append,List.map_nil,List.cons_append] at ih ⊢
    rw [ih]
   ·simp only [setE,List.map_cons,mput,MK.s.injEq,h,if_false,addS,hm,inM_cons,decide_false,Bool.false_or,if_true] at ih ⊢
    rw [ih]
theorem lk_set (l:List ByteArray) (s:ByteArray):lkP false (.c (.v (.bool false))) false (mget (setE l) (.s s))=some (.c (.v (.bool (inM s l)))):=by
 rw [mget_set]
 cases h:inM s l<;>simp [lkP,rowP,okP,D.e]
theorem mem_addS {l:List ByteArray} {s x:ByteArray}:x ∈ addS l s ↔ x ∈ l∨x=s:=by
 unfold addS
 split
 ·rename_i h
  rw [inM_iff] at h
  constructor
  ·exact .inl
  ·rintro (h'|rfl)
   ·exact h'
   ·exact h
 ·simp
theorem setE_nil:setE []=[]:=rfl
theorem getD_snoc {α:Type} (l:List α) (a d:α):(l++[a]).getD l.length d=a:=by simp [List.getD]
attribute [push_cast] lk_set mput_set setE_nil
end Go.Proofs.YthhfpcbpiphfiaaGreatDoor
namespace Go.Proofs.YthhfpcbpiphfiaaGreatDoor
attribute [local irreducible] PL QL PWPr PCalls Weak RetK Kontr
open Go.RowKit
open IntWalk renaming iteOmega → iO, toNatUp → tN
set_option linter.unusedVariables false
set_option linter.unusedSimpArgs false
set_option maxRecDepth 20000
theorem fold_pure (v n:Int) (hv : -9223372036854775808≤v) (hv':v≤9223372036854775807) (hn:n≤9223372036854775807) :
  PCalls Tryz.prog 14 [.c (.v (.int .i64 v)),.c (.v (.int .i64 n))] [] fun r os=>r = .c (.v (.int .i64 (fold v n)))∧os=[]:=by
 have hlo:=Int.lt_tmod_of_pos v (b:=n)
 have hhi:=Int.tmod_lt_of_pos v (b:=n)
 refine pcalls_of Tryz.func14 rfl (by simp [Tryz.ntmps14]) ?_
 rw [Tryz.ntmps14,Tryz.results14]
 push_cast [iO,tN]
 by_cases h1:n≤1
 ·repeat' (first|((first|refine pG ?_|refine pQ ?_|refine pU ?_);push_cast [iO,tN])|(refine pif (fun h=>?_) (fun h=>?_)<;>first|exact pN h|push_cast [iO,tN]))
  (refine retK_of [] ?_;push_cast [iO,tN])
  simp [fold,h1]
 ·by_cases h0:0≤v
  ·have he:=Int.tmod_eq_emod_of_nonneg h0 (b:=n)
   have hb:=Int.emod_nonneg v (b:=n) (by omega)
   repeat' (first|((first|refine pG ?_|refine pQ ?_|refine pU ?_);push_cast [iO,tN])|(refine pif (fun h=>?_) (fun h=>?_)<;>first|exact pN h|push_cast [iO,tN]))
   (refine retK_of [] ?_;push_cast [iO,tN])
   simp only [fold,if_neg h1,he]
   rw [if_neg (by omega)]
  ·by_cases h2:v.tmod n < 0
   ·repeat' (first|((first|refine pG ?_|refine pQ ?_|refine pU ?_);push_cast [iO,tN])|(refine pif (fun h=>?_) (fun h=>?_)<;>first|exact pN h|push_cast [iO,tN]))
    (refine retK_of [] ?_;push_cast [iO,tN])
    simp [fold,h1,h2]
   ·repeat' (first|((first|refine pG ?_|refine pQ ?_|refine pU ?_);push_cast [iO,tN])|(refine pif (fun h=>?_) (fun h=>?_)<;>first|exact pN h|push_cast [iO,tN]))
    (refine retK_of [] ?_;push_cast [iO,tN])
    simp [fold,h1,h2]
def tape (L:List Int) (k:Nat):Ob:=.box 31 [.sl 1 (L.map fun x=>[D.v (.int .i64 x)]),.v (.int .i64 k)]
attribute [push_cast] tape
theorem next_pure (L:List Int) (k:Nat) (n:Int) (hk:k < 1000000) (hn:n≤9223372036854775807) (hL:∀ x ∈ L,-9223372036854775808≤x∧x≤9223372036854775807) (hl:L.length≤9223372036854775807) :
  PCalls Tryz.prog 6 [.c (.ptr 0 0),.c (.v (.int .i64 n))] [tape L k] fun r os=>r = .c (.v (.int .i64 (fold (tapeAt L k) n)))∧os=[tape L (k+1)]:=by
 refine pcalls_of Tryz.func6 rfl (by simp [Tryz.ntmps6]) ?_
 rw [Tryz.ntmps6,Tryz.results6]
 push_cast [iO,tN]
 by_cases hlt:k < L.length
 ·have hx:=hL (L.getD k default) (by rw [getD_lt L hlt];exact List.getElem_mem _)
  repeat' (first |  (refine plc [] (fold_pure (L.getD k default) n (by omega) (by omega) hn) ?_ ?_;push_cast [iO,tN];rintro r os ⟨rfl,rfl⟩;push_cast [iO,tN])  | ((first|refine pG ?_|refine pQ ?_|refine pU ?_);push_cast [iO,tN])|(refine pif (fun h=>?_) (fun h=>?_)<;>first|exact pN h|push_cast [iO,tN]))
  (refine retK_of [0] ?_;push_cast [iO,tN])
  simp [tapeAt,hlt]
 ·repeat' (first |  (refine plc [] (fold_pure ((k:Int) * 7 % 11) n (by omega) (by omega) hn) ?_ ?_;push_cast [iO,tN];rintro r os ⟨rfl,rfl⟩;push_cast [iO,tN])  | ((first|refine pG ?_|refine pQ ?_|refine pU ?_);push_cast [iO,tN])|(refine pif (fun h=>?_) (fun h=>?_)<;>first|exact pN h|push_cast [iO,tN]))
  (refine retK_of [0] ?_;push_cast [iO,tN])
  simp [tapeAt,hlt]
def strD (s:ByteArray):List D:=[.v (.string s)]
attribute [push_cast] strD
def pick (L:List Int) (k:Nat) (l:List ByteArray):ByteArray:=l.getD (fold (tapeAt L k) l.length).toNat default
theorem fold_bds (v n:Int) (hn:0 < n):0≤fold v n∧fold v n < n:=by
 unfold fold
 have:=Int.lt_tmod_of_pos v (b:=n) hn
 have:=Int.tmod_lt_of_pos v (b:=n) hn
 split
 ·omega
 ·split<;>omega
theorem one_pure (L:List Int) (k:Nat) (l:List ByteArray) (hk:k < 1000000) (h0:0 < l.length) (hn:l.length≤1000000) (hL:∀ x ∈ L,-9223372036854775808≤x∧x≤9223372036854775807) (hl:L.length≤9223372036854775807) :
  PCalls Tryz.prog 7 [.c (.ptr 0 0),.c (.sl 1 (l.map strD))] [tape L k] fun r os=>r = .c (.v (.string (pick L k l)))∧os=[tape L (k+1)]:=by
 refine pcalls_of Tryz.func7 rfl (by simp [Tryz.ntmps7]) ?_
 rw [Tryz.ntmps7,Tryz.results7]
 obtain ⟨hb,hb'⟩:=fold_bds (tapeAt L k) l.length (by omega)
 push_cast [iO,tN]
 repeat' (first |  (refine plc [0] (next_pure L k l.length hk (by omega) hL hl) ?_ ?_;push_cast [iO,tN];rintro r os ⟨rfl,rfl⟩;push_cast [iO,tN])  | ((first|refine pG ?_|refine pQ ?_|refine pU ?_);push_cast [iO,tN])|(refine pif (fun h=>?_) (fun h=>?_)<;>first|exact pN h|push_cast [iO,tN]))
 (refine retK_of [0] ?_;push_cast [iO,tN])
 simp [pick,List.getD]
end Go.Proofs.YthhfpcbpiphfiaaGreatDoor
namespace Go.Proofs.YthhfpcbpiphfiaaGreatDoor
open Go.RowKit
open IntWalk renaming iteOmega → iO, toNatUp → tN
set_option linter.unusedVariables false
set_option linter.unusedSimpArgs false
structure Atr where
 name:ByteArray
 value:ByteArray
 deriving DecidableEq,Inhabited
def Atr.d (x:Atr):List D:=[.v (.string x.name),.v (.string x.value)]
attribute [push_cast] Atr.d
structure Dev where
 index:Int
 parent:Int
 name:ByteArray
 original:ByteArray
 subsystem:ByteArray
 driver:ByteArray
 alias_:ByteArray
 kind:Int
 number:Int
 attrs:List Atr
 deriving DecidableEq,Inhabited
def Dev.d (d:Dev):List D:=[.v (.int .i64 d.index),.v (.int .i64 d.parent),.v (.string d.name),.v (.string d.original),.v (.string d.subsystem),.v (.string d.driver),.v (.string d.alias_),.v (.int .i64 d.kind),.v (.int .i64 d.number),.sl 2 (d.attrs.map Atr.d)]
attribute [push_cast] Dev.d
abbrev Fit (s:ByteArray):Prop:=s.size≤9223372036854775807
structure Mod where
 name:ByteArray
 aliases:List ByteArray
 needs:List ByteArray
 pre:List ByteArray
 post:List ByteArray
 fails:Bool
 deriving DecidableEq,Inhabited
def Mod.d (m:Mod):List D:=[.v (.string m.name),.sl 1 (m.aliases.map strD),.sl 1 (m.needs.map strD),.sl 1 (m.pre.map strD),.sl 1 (m.post.map strD),.v (.bool m.fails)]
structure Ext2 where
 name:ByteArray
 value:ByteArray
 deriving DecidableEq,Inhabited
def Ext2.d (x:Ext2):List D:=[.v (.string x.name),.v (.string x.value)]
structure Cfg where
 modules:List Mod
 blocked:List ByteArray
 off:List ByteArray
 keep:List ByteArray
 extra:List Ext2
 deriving DecidableEq,Inhabited
def Cfg.d (c:Cfg):List D:=[.sl 6 (c.modules.map Mod.d),.sl 1 (c.blocked.map strD),.sl 1 (c.off.map strD),.sl 1 (c.keep.map strD),.sl 2 (c.extra.map Ext2.d)]
attribute [push_cast] Mod.d Ext2.d Cfg.d
def modOf (l:List Mod) (n:ByteArray):Option Mod:=l.find? fun m=>decide (m.name=n)
def noMod:Mod:=⟨⟨#[]⟩,[],[],[],[],false⟩
def Mod.e (m:Mod):List E:=m.d.map D.e
attribute [push_cast] Mod.e
def allSome:List (Option PV) → List PV → Prop
 | [],[]=>True
 | some q :: l,r :: m=>leP q r∧allSome l m
 | _,_=>False
theorem allSome_ok {w:World} {Γ:G}:∀ {l:List (Option PV)} {m:List PV} {ys:List Value},allSome l m → All2 (fun q y=>∀ r,q=some r → RP w Γ r y) l ys → All2 (RP w Γ) m ys
 | [],[],_,_,h=>by rw [All2.nil_l] at h ⊢;exact h
 | some q :: l,r :: m,y :: ys,h,hr=>⟨leP_ok h.1 (hr.1 q rfl),allSome_ok h.2 hr.2⟩
 | some _ :: _,_ :: _,[],_,hr=>hr.elim
 | [],_ :: _,_,h,_=>h.elim
 | none :: _,_,_,h,_=>h.elim
 | some _ :: _,[],_,h,_=>h.elim
section
variable {P:Program} {N p:Nat} {ops:Array Oper} {rest:List Oper} {o:Oper} {s:S} {K:S → Prop}
theorem pl_call_all {f:Operand} {args:Array Operand} {tys:Array TypeId} {g:FuncId} {ds:List D} {cap:List Nat} {args':List PV} {R:PV → List Ob → Prop}
  (ho:o.op = .call ⟨.value f,args,tys⟩) (hg:gd ops s o.guard=some true) (hf:s.ev f=some (.c (.fn (.func g) ds cap))) (hb:bodyOk P g=true) (hd:dstOk N o.dst)
  (ha:allSome (callArgs s ds args.toList cap) args') (hc:PCalls P g args' s.o R)
  (hK:∀ r os'',R r os'' → PL P N p ops rest (S.put ⟨s.t,os''⟩ o.dst r) K):PL P N p ops (o :: rest) s K:=by
 intro Γ a w Q hA hQ
 obtain ⟨xs,ys,hfv,hargs⟩:=callArgs_ok hA.inv hf args
 have hseen:=allSome_ok ha hargs
 unfold wpListIn
 rw [if_pos (gd_ok hg hA.inv)]
 refine wpIn_enter (run_enter ho hfv hb) ?_
 have:=hc _ w _ hA.inv.m hseen
 rw [Array.toArray_toList] at this
 refine this.mono ?_
 rintro e w' ⟨r,os'',Γ',y,rfl,hR,hr,hlen,hm',hgr⟩
 have hle:p≤s.o.length:=by rw [← hA.inv.m.n];exact hA.le
 have hag:∀ j,j < Γ.n → Agree Γ Γ' j:=fun j hj=>by
  have hj':j < s.o.length:=by rw [← hA.inv.m.n];exact hj
  exact ⟨by rw [hm'.n];omega,(hgr.keep j hj').1,(hgr.keep j hj').2⟩
 have hI:=hA.inv.heap hm' (hgr.stay hA.inv.m) hag
 refine ⟨y,rfl,hK r os'' hR Γ' _ w' Q ⟨hI.put (dst_lt hd) hr,by rw [hm'.n];omega⟩ fun s' Γ2 a2 w2 hk hA2 hg2 hd2=>hQ s' Γ2 a2 w2 hk hA2 ?_ (hd2.trans (put_defers _ _ _))⟩
 have hgp:Grow p Γ w Γ' w':=⟨hgr.ext,hgr.sub,hgr.new,hgr.imm,fun k hk=>hgr.keep k (by omega)⟩
 exact hgp.trans hg2
theorem weak_slots {s':S} (ht:subT s s'.t) (ho:s'.o=s.o):Weak N p s s':=by
 intro Γ a w hA
 refine ⟨Γ,⟨⟨hA.inv.size,hA.inv.defers,fun i q hq=>?_,by rw [ho];exact hA.inv.m⟩,hA.le⟩,Grow.refl _ _ _⟩
 obtain ⟨r,hr,hle⟩:=subT_look ht hq
 obtain ⟨i1,i2⟩:=hA.inv.t i r hr
 exact ⟨i1,leP_ok hle i2⟩
end
def RetA (P:Program) (rs:List ResultVar) (p:Nat) (R:PV → List Ob → Prop) (s:S):Prop:=∃ r,resP P s rs=some r∧p≤s.o.length∧R r s.o
def RetQA (P:Program) (rs:List ResultVar) (p:Nat) (R:PV → List Ob → Prop):Exit → S → Prop
 | .normal,s=>RetA P rs p R s
 | .ret,s=>RetA P rs p R s
 | _,_=>False
theorem RetQA_normal (P:Program) (rs:List ResultVar) (p:Nat) (R:PV → List Ob → Prop) (s:S):RetQA P rs p R .normal s=RetA P rs p R s:=rfl
theorem RetQA_ret (P:Program) (rs:List ResultVar) (p:Nat) (R:PV → List Ob → Prop) (s:S):RetQA P rs p R .ret s=RetA P rs p R s:=rfl
attribute [push_cast] RetQA_normal RetQA_ret allSome
theorem pcalls_of_all {P:Program} {g:FuncId} {fn:Func} {c:Code} {args:List PV} {os:List Ob} {R:PV → List Ob → Prop} (hf:P.funcs[g]? = some fn) (hb:fn.body=some c) (hn:args.length≤fn.ntmps)
  (h:PWP P fn.ntmps os.length c (RetQA P fn.results.toList os.length R) ⟨parT 0 args,os⟩):PCalls P g args os R:=by
 refine calls_pwp (T:=RetA P fn.results.toList os.length R) hf hb hn (fun e s hq=>?_) (fun s' Γ Γ' a' w w' ht hI hg=>?_) h
 ·cases e with
  | normal=>exact ⟨.inl rfl,hq⟩
  | ret=>exact ⟨.inr rfl,hq⟩
  | exit j=>exact hq.elim
  | goto l=>exact hq.elim
  | panic ch=>exact hq.elim
  | outgrown=>exact hq.elim
 ·obtain ⟨r,h1,h2,h3⟩:=ht
  obtain ⟨y,h8,h9⟩:=resP_ok hI h1
  exact ⟨y,h8,r,s'.o,Γ',h3,h9,h2,hI.m,hg⟩
end Go.Proofs.YthhfpcbpiphfiaaGreatDoor
namespace Go.Proofs.YthhfpcbpiphfiaaGreatDoor
attribute [local irreducible] PL QL PWPr PCalls Weak RetK Kontr PA
open Go.RowKit
open IntWalk renaming iteOmega → iO, toNatUp → tN
set_option linter.unusedVariables false
set_option linter.unusedSimpArgs false
set_option maxRecDepth 20000
def PredM (P:Program) (g:FuncId) (ks:List Nat) (os:List Ob) (l:List Mod) (q:Mod → Bool):Prop:=bodyOk P g=true∧∀ x ∈ l,PCalls P g (.agg x.e :: ks.map fun k=>.c (.ptr k 0)) os fun r os'=>r = .c (.v (.bool (q x)))∧os'=os
def idxM (q:Mod → Bool) (l:List Mod) (k:Int):Prop:=(k = -1∧∀ x ∈ l,q x=false)∨∃ i:Nat,k=i∧i < l.length∧q (l.getD i default)=true∧∀ x ∈ l.take i,q x=false
theorem allSomeM:∀ ks:List Nat,allSome (ks.map fun k=>some (PV.c (.ptr k 0))) (ks.map fun k=>PV.c (.ptr k 0))
 | []=>trivial
 | k :: ks=>⟨leP_refl _,allSomeM ks⟩
theorem indexFuncM_pure (l:List Mod) (hl:l.length≤1000000000) (g:FuncId) (ks:List Nat) (os:List Ob) (q:Mod → Bool) (hp:PredM Tryz.prog g ks os l q) :
  PCalls Tryz.prog 37 [.c (.sl 6 (l.map Mod.d)),.c (.fn (.func g) [] ks)] os fun r os'=>∃ k,idxM q l k∧r = .c (.v (.int .i64 k))∧os'=os:=by
 refine pcalls_of_all Tryz.func37 rfl (by simp [Tryz.ntmps37]) ?_
 rw [Tryz.ntmps37,Tryz.results37]
 push_cast [iO,tN]
 repeat' (first|((first|refine pG ?_|refine pQ ?_|refine pU ?_);push_cast [iO,tN])|(refine pif (fun h=>?_) (fun h=>?_)<;>first|exact pN h|push_cast [iO,tN]))
 refine pwp_loop2 (α:=Nat) (fun k=>k≤l.length∧∀ x ∈ l.take k,q x=false) (fun k=>⟨[(8,.c (.v (.int .i64 k))),(7,.c (.v (.int .i64 l.length))),(6,.c (.sl 6 (l.map Mod.d))),(0,.c (.sl 6 (l.map Mod.d))),(1,.c (.fn (.func g) [] ks))],os⟩) (fun k=>l.length - k) 0 ⟨by omega,by simp⟩ (weak_slots (by push_cast [iO,tN]) rfl) ?_
 rintro k ⟨hk,hpre⟩
 by_cases hlt:k < l.length
 ·have hm:l.getD k default ∈ l:=by rw [getD_lt l hlt];exact List.getElem_mem _
  have hc:=hp.2 _ hm
  have hpre2:q (l.getD k default)=false → ∀ x ∈ l.take (k+1),q x=false:=fun h x hx=>by
   rw [List.take_succ_eq_append_getElem hlt] at hx
   rcases List.mem_append.1 hx with hx|hx
   ·exact hpre x hx
   ·simp at hx;subst hx;rw [← getD_lt l hlt];exact h
  cases hq:q (l.getD k default)
  all_goals rw [hq] at hc
  all_goals repeat' (first |  (refine pl_call_all rfl (by push_cast [iO,tN]) rfl hp.1 (by push_cast [iO,tN]) ?_ hc ?_;(focus (unfold callArgs;push_cast [iO,tN];exact allSomeM ks));rintro r os ⟨rfl,rfl⟩;refine pl_of_pops ?_;push_cast [iO,tN])  | ((first|refine pG ?_|refine pQ ?_|refine pU ?_);push_cast [iO,tN])|(refine pif (fun h=>?_) (fun h=>?_)<;>first|exact pN h|push_cast [iO,tN]))
  ·exact ⟨k+1,⟨by omega,hpre2 hq⟩,weak_slots (by push_cast [iO,tN]) rfl,by omega⟩
  ·exact ⟨_,rfl,by push_cast [iO,tN],k,.inr ⟨k,rfl,hlt,hq,hpre⟩,rfl,rfl⟩
 ·rw [List.take_of_length_le (by omega)] at hpre
  repeat' (first|((first|refine pG ?_|refine pQ ?_|refine pU ?_);push_cast [iO,tN])|(refine pif (fun h=>?_) (fun h=>?_)<;>first|exact pN h|push_cast [iO,tN]))
  exact ⟨_,rfl,by push_cast [iO,tN],-1,.inl ⟨rfl,hpre⟩,rfl,rfl⟩
set_option maxRecDepth 20000
def PredS (P:Program) (g:FuncId) (ks:List Nat) (os:List Ob) (l:List ByteArray) (q:ByteArray → Bool):Prop:=bodyOk P g=true∧∀ x ∈ l,PCalls P g (.c (.v (.string x)) :: ks.map fun k=>.c (.ptr k 0)) os fun r os'=>r = .c (.v (.bool (q x)))∧os'=os
def idxS (q:ByteArray → Bool) (l:List ByteArray) (k:Int):Prop:=(k = -1∧∀ x ∈ l,q x=false)∨∃ i:Nat,k=i∧i < l.length∧q (l.getD i default)=true∧∀ x ∈ l.take i,q x=false
theorem allSomeS:∀ ks:List Nat,allSome (ks.map fun k=>some (PV.c (.ptr k 0))) (ks.map fun k=>PV.c (.ptr k 0))
 | []=>trivial
 | k :: ks=>⟨leP_refl _,allSomeS ks⟩
theorem indexFuncS_pure (l:List ByteArray) (hl:l.length≤1000000000) (g:FuncId) (ks:List Nat) (os:List Ob) (q:ByteArray → Bool) (hp:PredS Tryz.prog g ks os l q) :
  PCalls Tryz.prog 57 [.c (.sl 1 (l.map strD)),.c (.fn (.func g) [] ks)] os fun r os'=>∃ k,idxS q l k∧r = .c (.v (.int .i64 k))∧os'=os:=by
 refine pcalls_of_all Tryz.func57 rfl (by simp [Tryz.ntmps57]) ?_
 rw [Tryz.ntmps57,Tryz.results57]
 push_cast [iO,tN]
 repeat' (first|((first|refine pG ?_|refine pQ ?_|refine pU ?_);push_cast [iO,tN])|(refine pif (fun h=>?_) (fun h=>?_)<;>first|exact pN h|push_cast [iO,tN]))
 refine pwp_loop2 (α:=Nat) (fun k=>k≤l.length∧∀ x ∈ l.take k,q x=false) (fun k=>⟨[(8,.c (.v (.int .i64 k))),(7,.c (.v (.int .i64 l.length))),(6,.c (.sl 1 (l.map strD))),(0,.c (.sl 1 (l.map strD))),(1,.c (.fn (.func g) [] ks))],os⟩) (fun k=>l.length - k) 0 ⟨by omega,by simp⟩ (weak_slots (by push_cast [iO,tN]) rfl) ?_
 rintro k ⟨hk,hpre⟩
 by_cases hlt:k < l.length
 ·have hm:l.getD k default ∈ l:=by rw [getD_lt l hlt];exact List.getElem_mem _
  have hc:=hp.2 _ hm
  have hpre2:q (l.getD k default)=false → ∀ x ∈ l.take (k+1),q x=false:=fun h x hx=>by
   rw [List.take_succ_eq_append_getElem hlt] at hx
   rcases List.mem_append.1 hx with hx|hx
   ·exact hpre x hx
   ·simp at hx;subst hx;rw [← getD_lt l hlt];exact h
  cases hq:q (l.getD k default)
  all_goals rw [hq] at hc
  all_goals repeat' (first |  (refine pl_call_all rfl (by push_cast [iO,tN]) rfl hp.1 (by push_cast [iO,tN]) ?_ hc ?_;(focus (unfold callArgs;push_cast [iO,tN];exact allSomeS ks));rintro r os ⟨rfl,rfl⟩;refine pl_of_pops ?_;push_cast [iO,tN])  | ((first|refine pG ?_|refine pQ ?_|refine pU ?_);push_cast [iO,tN])|(refine pif (fun h=>?_) (fun h=>?_)<;>first|exact pN h|push_cast [iO,tN]))
  ·exact ⟨k+1,⟨by omega,hpre2 hq⟩,weak_slots (by push_cast [iO,tN]) rfl,by omega⟩
  ·exact ⟨_,rfl,by push_cast [iO,tN],k,.inr ⟨k,rfl,hlt,hq,hpre⟩,rfl,rfl⟩
 ·rw [List.take_of_length_le (by omega)] at hpre
  repeat' (first|((first|refine pG ?_|refine pQ ?_|refine pU ?_);push_cast [iO,tN])|(refine pif (fun h=>?_) (fun h=>?_)<;>first|exact pN h|push_cast [iO,tN]))
  exact ⟨_,rfl,by push_cast [iO,tN],-1,.inl ⟨rfl,hpre⟩,rfl,rfl⟩
theorem containsFuncS_pure (l:List ByteArray) (hl:l.length≤1000000000) (g:FuncId) (ks:List Nat) (os:List Ob) (q:ByteArray → Bool) (hp:PredS Tryz.prog g ks os l q) :
  PCalls Tryz.prog 39 [.c (.sl 1 (l.map strD)),.c (.fn (.func g) [] ks)] os fun r os'=>r = .c (.v (.bool (l.any q)))∧os'=os:=by
 refine pcalls_of_all Tryz.func39 rfl (by simp [Tryz.ntmps39]) ?_
 rw [Tryz.ntmps39,Tryz.results39]
 push_cast [iO,tN]
 repeat' (first |  (refine pl_call_all rfl (by push_cast [iO,tN]) rfl (by kernel_rfl) (by push_cast [iO,tN]) ?_ (indexFuncS_pure l hl g ks os q hp) ?_;(focus (unfold callArgs;push_cast [iO,tN]));rintro r os ⟨k,hk,rfl,rfl⟩;refine pl_of_pops ?_;push_cast [iO,tN])  | ((first|refine pG ?_|refine pQ ?_|refine pU ?_);push_cast [iO,tN])|(refine pif (fun h=>?_) (fun h=>?_)<;>first|exact pN h|push_cast [iO,tN]))
 refine ⟨_,rfl,by push_cast [iO,tN],?_,rfl⟩
 rcases hk with ⟨rfl,h⟩|⟨i,rfl,hi,hq,_⟩
 ·have:l.any q=false:=by rw [List.any_eq_false];intro x hx;simp [h x hx]
  rw [this];rfl
 ·have:l.any q=true:=List.any_eq_true.2 ⟨l.getD i default,by rw [getD_lt l hi];exact List.getElem_mem _,hq⟩
  rw [this];simp
end Go.Proofs.YthhfpcbpiphfiaaGreatDoor
namespace Go.Proofs.YthhfpcbpiphfiaaGreatDoor
attribute [local irreducible] PL QL PWPr PCalls Weak RetK Kontr
open Go.RowKit
open IntWalk renaming iteOmega → iO, toNatUp → tN
set_option linter.unusedVariables false
set_option linter.unusedSimpArgs false
set_option maxRecDepth 20000
end Go.Proofs.YthhfpcbpiphfiaaGreatDoor
namespace Go.Proofs.YthhfpcbpiphfiaaGreatDoor
attribute [local irreducible] PL QL PWPr PCalls Weak RetK Kontr PA
open Go.RowKit
open IntWalk renaming iteOmega → iO, toNatUp → tN
set_option linter.unusedVariables false
set_option linter.unusedSimpArgs false
set_option maxRecDepth 20000
theorem clone_pure (l:List ByteArray) (hl:l.length≤1000000000) :
  PCalls Tryz.prog 24 [.c (.sl 1 (l.map strD))] [] fun r os=>r = .c (.own 0 l.length)∧os=[.arr 9 1 (l.map strD)]:=by
 refine pcalls_adopt (R:=fun r os=>(r = .c (.own 0 l.length)∧os=[.arr 9 1 (l.map strD)])∨(r = .c (.v (.slice none 0 0))∧os=[]∧l=[])) 9 1 (by omega) ?_ (by
  rintro r os (h|⟨rfl,rfl,rfl⟩)
  ·exact .inl h
  ·exact .inr ⟨rfl,rfl,rfl⟩)
 by_cases h0:l=[]
 ·subst h0
  refine pcalls_split0 (l1:=[]) (l2:=[]) fun A c=>?_
  cases A with
  | none =>
   refine PCalls.mono (R:=fun r os=>r = .c (.v (.slice none 0 0))∧os=[]) ?_ (fun r os h=>.inr ⟨h.1,h.2,rfl⟩)
   refine pcalls_of Tryz.func24 rfl (by simp [Tryz.ntmps24]) ?_
   rw [Tryz.ntmps24,Tryz.results24]
   push_cast [iO,tN]
   repeat' (first|((first|refine pG ?_|refine pQ ?_|refine pU ?_);push_cast [iO,tN])|(refine pif (fun h=>?_) (fun h=>?_)<;>first|exact pN h|push_cast [iO,tN]))
   (refine retK_of [] ?_;push_cast [iO,tN])
  | some a =>
   refine PCalls.mono (R:=fun r os=>r = .c (.own 0 0)∧os=[.arr 9 1 []]) ?_ (fun r os h=>.inl h)
   refine pcalls_of Tryz.func24 rfl (by simp [Tryz.ntmps24]) ?_
   rw [Tryz.ntmps24,Tryz.results24]
   push_cast [iO,tN]
   repeat' (first|((first|refine pG ?_|refine pQ ?_|refine pU ?_);push_cast [iO,tN])|(refine pif (fun h=>?_) (fun h=>?_)<;>first|exact pN h|push_cast [iO,tN]))
   (refine retK_of [0] ?_;push_cast [iO,tN])
 ·have h1:0 < l.length:=List.length_pos_iff.2 h0
  refine PCalls.mono (R:=fun r os=>r = .c (.own 0 l.length)∧os=[.arr 9 1 (l.map strD)]) ?_ (fun r os h=>.inl h)
  refine pcalls_of Tryz.func24 rfl (by simp [Tryz.ntmps24]) ?_
  rw [Tryz.ntmps24,Tryz.results24]
  push_cast [iO,tN]
  repeat' (first|((first|refine pG ?_|refine pQ ?_|refine pU ?_);push_cast [iO,tN])|(refine pif (fun h=>?_) (fun h=>?_)<;>first|exact pN h|push_cast [iO,tN]))
  (refine retK_of [0] ?_;push_cast [iO,tN])
end Go.Proofs.YthhfpcbpiphfiaaGreatDoor
namespace Go.Proofs.YthhfpcbpiphfiaaGreatDoor
open Go.RowKit
open IntWalk renaming iteOmega → iO, toNatUp → tN
set_option linter.unusedVariables false
set_option linter.unusedSimpArgs false
def leD:D → D → Prop
 | .v x,.v y=>x=y
 | .v x,.sl _ l=>isEmp x=true∧l=[]
 | .sl sz l,.sl sz' l'=>sz=sz'∧l=l'
 | _,_=>False
def leDs:List D → List D → Prop
 | [],[]=>True
 | a :: l,b :: m=>leD a b∧leDs l m
 | _,_=>False
theorem leD_ok {w:World} {I:Nat → Prop} {d d':D} {y:Value} (h:leD d d') (hr:RD w I d y):RD w I d' y:=by
 cases d with
 | v x =>
  cases d' with
  | v z=>obtain rfl:x=z:=h;exact hr
  | sl sz l =>
   obtain ⟨h,rfl⟩:=h
   obtain ⟨A,c,rfl⟩:=isEmp_ok h
   rw [RD] at hr
   rw [rd_sl,hr.1]
   exact ⟨A,c,[],rfl,Nat.zero_le _,Rd.nil,by simp,trivial⟩
 | sl sz l =>
  cases d' with
  | v z=>exact h.elim
  | sl sz' l'=>obtain ⟨rfl,rfl⟩:=h;exact hr
theorem leDs_ok {w:World} {I:Nat → Prop}:∀ {r r':List D} {ys:List Value},leDs r r' → All2 (RD w I) r ys → All2 (RD w I) r' ys
 | [],[],_,_,hr=>hr
 | a :: l,b :: m,y :: ys,h,hr=>⟨leD_ok h.1 hr.1,leDs_ok h.2 hr.2⟩
 | _ :: _,_ :: _,[],_,hr=>hr.elim
 | [],_ :: _,_,h,_=>h.elim
 | _ :: _,[],_,h,_=>h.elim
theorem leDs_length:∀ {r r':List D},leDs r r' → r.length=r'.length
 | [],[],_=>rfl
 | a :: l,b :: m,h=>by simp [leDs_length h.2]
 | [],_ :: _,h=>h.elim
 | _ :: _,[],h=>h.elim
attribute [push_cast] leD leDs
theorem weak_last {N p:Nat} {s:S} (k:Nat) {el:TypeId} {sz:Nat} {pre:List (List D)} {r:List D} (r':List D) (hk:s.o[k]? = some (.arr el sz (pre++[r]))) (h:leDs r r'):Weak N p s ⟨s.t,setO s.o k (.arr el sz (pre++[r']))⟩:=by
 intro Γ a w hA
 have hm:=hA.inv.m
 have hkl:k < s.o.length:=(List.getElem?_eq_some_iff.1 hk).1
 refine ⟨Γ,⟨⟨hA.inv.size,hA.inv.defers,hA.inv.t,⟨by simp [setO,hm.n],fun j o ho=>?_,hm.sep,hm.off,hm.lt,hm.pin⟩⟩,hA.le⟩,Grow.refl _ _ _⟩
 simp only [setO] at ho
 by_cases e:k=j
 ·subst e
  rw [List.getElem?_set_self hkl] at ho
  cases ho
  obtain ⟨g1,g2,g3,g4⟩:=hm.ob k _ hk
  refine ⟨fun x hx=>?_,g2,fun h=>absurd (g3 h) (by simp),fun hc=>?_⟩
  ·rcases List.mem_append.1 hx with hx|hx
   ·exact g1 x (by simp [hx])
   ·simp at hx;subst hx;rw [← leDs_length h];exact g1 r (by simp)
  obtain ⟨cur,b1,b2,b3,b4,b5⟩:=g4 hc
  refine ⟨cur,b1,b2,by simpa using b3,b4,?_⟩
  have e2:(pre++[r']).length=(pre++[r]).length:=by simp
  rw [e2]
  rw [List.flatten_append] at b5 ⊢
  obtain ⟨x1,x2,hx,h1,h2⟩:=b5.split
  rw [hx]
  refine h1.append ?_
  simp only [List.flatten_cons,List.flatten_nil,List.append_nil] at h2 ⊢
  exact leDs_ok h h2
 ·rw [List.getElem?_set_ne e] at ho
  exact hm.ob j o ho
def leRows:List (List D) → List (List D) → Prop
 | [],[]=>True
 | a :: l,b :: m=>leDs a b∧leRows l m
 | _,_=>False
theorem leRows_ok {w:World} {I:Nat → Prop}:∀ {r r':List (List D)} {ys:List Value},leRows r r' → All2 (RD w I) r.flatten ys → All2 (RD w I) r'.flatten ys
 | [],[],_,_,hr=>hr
 | a :: l,b :: m,ys,h,hr=>by
  simp only [List.flatten_cons] at hr ⊢
  obtain ⟨x,y,rfl,h1,h2⟩:=hr.split
  exact (leDs_ok h.1 h1).append (leRows_ok h.2 h2)
 | [],_ :: _,_,h,_=>h.elim
 | _ :: _,[],_,h,_=>h.elim
theorem leRows_length:∀ {r r':List (List D)},leRows r r' → r.length=r'.length
 | [],[],_=>rfl
 | a :: l,b :: m,h=>by simp [leRows_length h.2]
 | [],_ :: _,h=>h.elim
 | _ :: _,[],h=>h.elim
theorem leRows_mem {sz:Nat}:∀ {r r':List (List D)},leRows r r' → (∀ x ∈ r,x.length=sz) → ∀ x ∈ r',x.length=sz
 | [],[],_,_,x,hx=>by simp at hx
 | a :: l,b :: m,h,hr,x,hx=>by
  rcases List.mem_cons.1 hx with rfl|hx
  ·rw [← leDs_length h.1];exact hr a (by simp)
  ·exact leRows_mem h.2 (fun y hy=>hr y (by simp [hy])) x hx
 | [],_ :: _,h,_,_,_=>h.elim
 | _ :: _,[],h,_,_,_=>h.elim
attribute [push_cast] leRows
theorem weak_rows {N p:Nat} {s:S} (i:Nat) {sz:Nat} {l:List (List D)} (l':List (List D)) (hi:s.get i=some (.c (.full sz l))) (h:leRows l l'):Weak N p s ⟨(i,.c (.sl sz l')) :: s.t,s.o⟩:=by
 intro Γ a w hA
 refine ⟨Γ,⟨⟨hA.inv.size,hA.inv.defers,fun j q hq=>?_,hA.inv.m⟩,hA.le⟩,Grow.refl _ _ _⟩
 simp only [S.get,look] at hq
 split at hq
 ·rename_i e
  subst e
  cases hq
  obtain ⟨h1,h2,_⟩:=hA.inv.t j _ hi
  refine ⟨h1,?_⟩
  obtain ⟨A,c,xs,h3,h4,h5,h6,h7⟩:=rd_sl.1 h2
  show RD w Γ.I (.sl sz l') _
  rw [rd_sl,h3]
  have hl:=leRows_length h
  exact ⟨A,c,xs,by rw [hl],by omega,by rw [← hl];exact h5,leRows_mem h h6,leRows_ok h h7⟩
 ·exact hA.inv.t j q hq
end Go.Proofs.YthhfpcbpiphfiaaGreatDoor
namespace Go.Proofs.YthhfpcbpiphfiaaGreatDoor
attribute [local irreducible] PL QL PWPr PCalls Weak RetK Kontr PA
open Go.RowKit
open IntWalk renaming iteOmega → iO, toNatUp → tN
set_option linter.unusedVariables false
set_option linter.unusedSimpArgs false
set_option maxRecDepth 20000
theorem index_pure (l:List ByteArray) (s:ByteArray) (hl:l.length≤1000000000) :
  PCalls Tryz.prog 70 [.c (.sl 1 (l.map strD)),.c (.v (.string s))] [] fun r os=>∃ k:Int,((k = -1∧s ∉ l)∨∃ i:Nat,k=i∧i < l.length∧l.getD i default=s)∧r = .c (.v (.int .i64 k))∧os=[]:=by
 refine pcalls_of Tryz.func70 rfl (by simp [Tryz.ntmps70]) ?_
 rw [Tryz.ntmps70,Tryz.results70]
 push_cast [iO,tN]
 repeat' (first|((first|refine pG ?_|refine pQ ?_|refine pU ?_);push_cast [iO,tN])|(refine pif (fun h=>?_) (fun h=>?_)<;>first|exact pN h|push_cast [iO,tN]))
 refine pwp_loop2 (α:=Nat) (fun k=>k≤l.length∧s ∉ l.take k) (fun k=>⟨[(8,.c (.v (.int .i64 k))),(7,.c (.v (.int .i64 l.length))),(6,.c (.sl 1 (l.map strD))),(0,.c (.sl 1 (l.map strD))),(1,.c (.v (.string s)))],[]⟩) (fun k=>l.length - k) 0 ⟨by omega,by simp⟩ (by (refine weak_fg ?_;push_cast [iO,tN])) ?_
 rintro k ⟨hk,hpre⟩
 by_cases hlt:k < l.length
 ·have e1:=getD_lt l hlt
  repeat' (first|((first|refine pG ?_|refine pQ ?_|refine pU ?_);push_cast [iO,tN])|(refine pif (fun h=>?_) (fun h=>?_)<;>first|exact pN h|push_cast [iO,tN]))
  ·(refine retK_of [] ?_;push_cast [iO,tN])
   exact ⟨_,_,leP_refl _,leOs_refl _,k,.inr ⟨k,rfl,hlt,h.symm⟩,rfl,rfl⟩
  ·refine ⟨k+1,⟨by omega,?_⟩,by (refine weak_fg ?_;push_cast [iO,tN]),by omega⟩
   rw [List.take_succ_eq_append_getElem hlt]
   simp only [List.mem_append,List.mem_singleton,not_or]
   exact ⟨hpre,by rw [← e1];exact h⟩
 ·rw [List.take_of_length_le (by omega)] at hpre
  repeat' (first|((first|refine pG ?_|refine pQ ?_|refine pU ?_);push_cast [iO,tN])|(refine pif (fun h=>?_) (fun h=>?_)<;>first|exact pN h|push_cast [iO,tN]))
  (refine retK_of [] ?_;push_cast [iO,tN])
  exact ⟨_,_,leP_refl _,leOs_refl _,-1,.inl ⟨rfl,hpre⟩,rfl,rfl⟩
theorem containsD_pure (l:List ByteArray) (s:ByteArray) (hl:l.length≤1000000000) :
  PCalls Tryz.prog 52 [.c (.sl 1 (l.map strD)),.c (.v (.string s))] [] fun r os=>r = .c (.v (.bool (inM s l)))∧os=[]:=by
 refine pcalls_of Tryz.func52 rfl (by simp [Tryz.ntmps52]) ?_
 rw [Tryz.ntmps52,Tryz.results52]
 push_cast [iO,tN]
 repeat' (first |  (refine plc [] (index_pure l s hl) ?_ ?_;push_cast [iO,tN];rintro r os ⟨k,hk,rfl,rfl⟩;push_cast [iO,tN])  | ((first|refine pG ?_|refine pQ ?_|refine pU ?_);push_cast [iO,tN])|(refine pif (fun h=>?_) (fun h=>?_)<;>first|exact pN h|push_cast [iO,tN]))
 (refine retK_of [] ?_;push_cast [iO,tN])
 rcases hk with ⟨rfl,h⟩|⟨i,rfl,hi,rfl⟩
 ·rw [inM_false.2 h];rfl
 ·rw [inM_iff.2 (by rw [getD_lt l hi];exact List.getElem_mem _)];simp
def wmL:List Mod:=[⟨⟨#[104,105,100]⟩,[⟨#[117,115,98,58,118,49,42]⟩],[],[],[],false⟩,⟨⟨#[110,105,99]⟩,[⟨#[112,99,105,58,100,50]⟩,⟨#[117,115,98,58,118,50]⟩],[⟨#[99,111,114,101]⟩],[],[],false⟩,⟨⟨#[99,111,114,101]⟩,[],[],[],[⟨#[101,120,116,114,97]⟩],false⟩,⟨⟨#[101,120,116,114,97]⟩,[],[],[⟨#[104,105,100]⟩],[],false⟩,⟨⟨#[111,116,104,101,114]⟩,[⟨#[117,115,98,58,42]⟩],[],[⟨#[101,120,116,114,97]⟩],[],false⟩,⟨⟨#[98,97,100]⟩,[⟨#[112,99,105,58,42]⟩],[],[],[],true⟩,⟨⟨#[114,105,110,103]⟩,[],[⟨#[114,105,110,103,50]⟩],[],[],false⟩,⟨⟨#[114,105,110,103,50]⟩,[],[⟨#[114,105,110,103]⟩],[],[],false⟩]
end Go.Proofs.YthhfpcbpiphfiaaGreatDoor
