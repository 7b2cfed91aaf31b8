/- What the program computes, and the plain laws of it, part 14. -/
import Derived.Test.YtmjffgienmcabaaGreatDoorRows
import Derived.Lib.SplitLaws
import Derived.Lib.IndexBytes
import Derived.Lib.ReplaceLaws
import Derived.Test.YtmjffgienmcabaaGreatDoorS13
namespace Go.Proofs.YtmjffgienmcabaaGreatDoor
open Go.RowKit
open IntWalk renaming iteOmega → iO, toNatUp → tN
set_option linter.unusedVariables false
set_option linter.unusedSimpArgs false
theorem pcalls_split0 {P:Program} {g:FuncId} {l1 l2:List PV} {sz:Nat} {os:List Ob} {R:PV → List Ob → Prop} (h:∀ A c,PCalls P g (l1++.c (.v (.slice A 0 c)) :: l2) os R):PCalls P g (l1++.c (.sl sz []) :: l2) os R:=by
 intro Γ w xs hm hx
 obtain ⟨a,b,rfl,h1,h2⟩:=hx.split
 obtain ⟨y,m,rfl,h3,h4⟩:=All2.cons_l.1 h2
 obtain ⟨A,c,xs',hy,_⟩:=rd_sl.1 h3
 exact h A c Γ w _ hm (h1.append ⟨⟨hy,rfl⟩,h4⟩)
theorem pcalls_adopt {P:Program} {g:FuncId} {args:List PV} {os:List Ob} {R R':PV → List Ob → Prop} (el:TypeId) (sz:Nat) (hsz:0 < sz) (h:PCalls P g args os R)
  (hR:∀ r os',R r os' → R' r os'∨(r = .c (.v (.slice none 0 0))∧R' (.c (.own os'.length 0)) (os'++[.arr el sz []]))):PCalls P g args os R':=by
 intro Γ w xs hm hx
 refine (h Γ w xs hm hx).mono ?_
 rintro e w' ⟨r,os',Γ',y,rfl,h2,h3,h4,h5,h6⟩
 rcases hR r os' h2 with h7|⟨rfl,h7⟩
 ·exact ⟨r,os',Γ',y,rfl,h7,h3,h4,h5,h6⟩
 ·have hS:=Same.refl w'
  have hm2:MemOk (Γ'.push 0 0) (os'++[.arr el sz []]) w':=h5.push hS _ 0 0 ⟨by simp,hsz,fun _=>rfl,fun h=>absurd h (by simp [G.push,upd_same])⟩ (fun h=>absurd h (by omega))
  have hn:=h5.n
  refine ⟨_,_,Γ'.push 0 0,y,rfl,h7,⟨by simp [G.push,hn],.inl ⟨by rw [← hn];simp [G.push,upd_same],⟨none,h3.1⟩,rfl⟩⟩,by simp;omega,hm2,?_⟩
  exact h6.trans (grow_push h5 (Ext.refl No w') 0 0 (fun h=>absurd h (by omega)) (by rw [hn];exact h4))
theorem weak_trim {N p:Nat} {s:S} (k n:Nat) {el:TypeId} {sz:Nat} {rows:List (List D)} (hk:s.o[k]? = some (.arr el sz rows)):Weak N p s ⟨s.t,setO s.o k (.arr el sz (rows.take n))⟩:=by
 intro Γ a w hA
 have hm:=hA.inv.m
 have hkl:k < s.o.length:=(List.getElem?_eq_some_iff.1 hk).1
 refine ⟨Γ,⟨⟨hA.inv.size,hA.inv.defers,hA.inv.t,⟨by simp [setO,hm.n],fun j o ho=>?_,hm.sep,hm.off,hm.lt,hm.pin⟩⟩,hA.le⟩,Grow.refl _ _ _⟩
 simp only [setO] at ho
 by_cases e:k=j
 ·subst e
  rw [List.getElem?_set_self hkl] at ho
  cases ho
  obtain ⟨g1,g2,g3,g4⟩:=hm.ob k _ hk
  refine ⟨fun r hr=>g1 r (List.mem_of_mem_take hr),g2,fun h=>by rw [g3 h];simp,fun hc=>?_⟩
  obtain ⟨cur,b1,b2,b3,b4,b5⟩:=g4 hc
  refine ⟨cur,b1,b2,by rw [List.length_take];omega,b4,?_⟩
  rcases Nat.lt_or_ge rows.length n with h|h
  ·rw [List.take_of_length_le (by omega)];exact b5
  ·have:=b5.take (n * sz)
   rw [take_rows g1 h,List.take_take,Nat.min_eq_left (Nat.mul_le_mul_right _ h)] at this
   rw [List.length_take,Nat.min_eq_left h]
   exact this
 ·rw [List.getElem?_set_ne e] at ho
  exact hm.ob j o ho
def inM (s:ByteArray) (l:List ByteArray):Bool:=l.any fun x=>decide (x=s)
theorem inM_iff {s:ByteArray} {l:List ByteArray}:inM s l=true ↔ s ∈ l:=by
 simp only [inM,List.any_eq_true,decide_eq_true_eq]
 exact ⟨fun ⟨x,h,e⟩=>e ▸ h,fun h=>⟨s,h,rfl⟩⟩
theorem inM_false {s:ByteArray} {l:List ByteArray}:inM s l=false ↔ s ∉ l:=by rw [← inM_iff];simp
theorem inM_cons (s a:ByteArray) (l:List ByteArray):inM s (a :: l)=(decide (a=s) || inM s l):=rfl
def setE (l:List ByteArray):List (MK × List D):=l.map fun s=>(.s s,[.v (.bool true)])
def addS (l:List ByteArray) (s:ByteArray):List ByteArray:=if inM s l=true then l else l++[s]
theorem mget_set (s:ByteArray):∀ l:List ByteArray,mget (setE l) (.s s)=if inM s l=true then some [.v (.bool true)] else none
 | []=>rfl
 | a :: l=>by
  have ih:=mget_set s l
  simp only [setE,List.map_cons,mget,MK.s.injEq,inM_cons] at ih ⊢
  by_cases h:a=s
  ·simp [h]
  ·rw [if_neg h,ih]
   simp [h]
theorem mput_set (s:ByteArray):∀ l:List ByteArray,mput (setE l) (.s s) [.v (.bool true)]=setE (addS l s)
 | []=>rfl
 | a :: l=>by
  have ih:=mput_set s l
  by_cases h:a=s
  ·subst h;simp [setE,mput,addS,inM_cons]
  ·cases hm:inM s l
   ·simp only [setE,List.map_cons,mput,MK.s.injEq,h,if_false,addS,hm,inM_cons,decide_false,Bool.false_or,Bool.false_eq_true,List.map_append,List.map_nil,List.cons_append] at ih ⊢
    rw [ih]
   ·simp only [setE,List.map_cons,mput,MK.s.injEq,h,if_false,addS,hm,inM_cons,decide_false,Bool.false_or,if_true] at ih ⊢
    rw [ih]
theorem lk_set (l:List ByteArray) (s:ByteArray):lkP false (.c (.v (.bool false))) false (mget (setE l) (.s s))=some (.c (.v (.bool (inM s l)))):=by
 rw [mget_set]
 cases h:inM s l<;>simp [lkP,rowP,okP,D.e]
theorem mem_addS {l:List ByteArray} {s x:ByteArray}:x ∈ addS l s ↔ x ∈ l∨x=s:=by
 unfold addS
 split
 ·rename_i h
  rw [inM_iff] at h
  constructor
  ·exact .inl
  ·rintro (h'|rfl)
   ·exact h'
   ·exact h
 ·simp
theorem nodup_addS {l:List ByteArray} {s:ByteArray} (h:l.Nodup):(addS l s).Nodup:=by
 unfold addS
 split
 ·exact h
 ·rename_i h'
  rw [inM_iff] at h'
  rw [List.nodup_append]
  refine ⟨h,by simp,?_⟩
  rintro a ha b hb rfl
  simp at hb
  subst hb
  exact h' ha
theorem setE_nil:setE []=[]:=rfl
theorem getD_snoc {α:Type} (l:List α) (a d:α):(l++[a]).getD l.length d=a:=by simp [List.getD]
attribute [push_cast] lk_set mput_set setE_nil
end Go.Proofs.YtmjffgienmcabaaGreatDoor
namespace Go.Proofs.YtmjffgienmcabaaGreatDoor
attribute [local irreducible] PL QL PWPr PCalls Weak RetK Kontr
open Go.RowKit
open IntWalk renaming iteOmega → iO, toNatUp → tN
set_option linter.unusedVariables false
set_option linter.unusedSimpArgs false
set_option maxRecDepth 20000
theorem fold_pure (v n:Int) (hv : -9223372036854775808≤v) (hv':v≤9223372036854775807) (hn:n≤9223372036854775807) :
  PCalls Tryz.prog 35 [.c (.v (.int .i64 v)),.c (.v (.int .i64 n))] [] fun r os=>r = .c (.v (.int .i64 (fold v n)))∧os=[]:=by
 have hlo:=Int.lt_tmod_of_pos v (b:=n)
 have hhi:=Int.tmod_lt_of_pos v (b:=n)
 refine pcalls_of Tryz.func35 rfl (by simp [Tryz.ntmps35]) ?_
 rw [Tryz.ntmps35,Tryz.results35]
 push_cast [iO,tN]
 by_cases h1:n≤1
 ·repeat' (first|((first|refine pG ?_|refine pQ ?_|refine pU ?_);push_cast [iO,tN])|(refine pif (fun h=>?_) (fun h=>?_)<;>first|exact pN h|push_cast [iO,tN]))
  (refine retK_of [] ?_;push_cast [iO,tN])
  simp [fold,h1]
 ·by_cases h0:0≤v
  ·have he:=Int.tmod_eq_emod_of_nonneg h0 (b:=n)
   have hb:=Int.emod_nonneg v (b:=n) (by omega)
   repeat' (first|((first|refine pG ?_|refine pQ ?_|refine pU ?_);push_cast [iO,tN])|(refine pif (fun h=>?_) (fun h=>?_)<;>first|exact pN h|push_cast [iO,tN]))
   (refine retK_of [] ?_;push_cast [iO,tN])
   simp only [fold,if_neg h1,he]
   rw [if_neg (by omega)]
  ·by_cases h2:v.tmod n < 0
   ·repeat' (first|((first|refine pG ?_|refine pQ ?_|refine pU ?_);push_cast [iO,tN])|(refine pif (fun h=>?_) (fun h=>?_)<;>first|exact pN h|push_cast [iO,tN]))
    (refine retK_of [] ?_;push_cast [iO,tN])
    simp [fold,h1,h2]
   ·repeat' (first|((first|refine pG ?_|refine pQ ?_|refine pU ?_);push_cast [iO,tN])|(refine pif (fun h=>?_) (fun h=>?_)<;>first|exact pN h|push_cast [iO,tN]))
    (refine retK_of [] ?_;push_cast [iO,tN])
    simp [fold,h1,h2]
def tape (L:List Int) (k:Nat):Ob:=.box 27 [.sl 1 (L.map fun x=>[D.v (.int .i64 x)]),.v (.int .i64 k)]
attribute [push_cast] tape
theorem next_pure (L:List Int) (k:Nat) (n:Int) (hk:k < 1000000) (hn:n≤9223372036854775807) (hL:∀ x ∈ L,-9223372036854775808≤x∧x≤9223372036854775807) (hl:L.length≤9223372036854775807) :
  PCalls Tryz.prog 14 [.c (.ptr 0 0),.c (.v (.int .i64 n))] [tape L k] fun r os=>r = .c (.v (.int .i64 (fold (tapeAt L k) n)))∧os=[tape L (k+1)]:=by
 refine pcalls_of Tryz.func14 rfl (by simp [Tryz.ntmps14]) ?_
 rw [Tryz.ntmps14,Tryz.results14]
 push_cast [iO,tN]
 by_cases hlt:k < L.length
 ·have hx:=hL (L.getD k default) (by rw [getD_lt L hlt];exact List.getElem_mem _)
  repeat' (first |  (refine plc [] (fold_pure (L.getD k default) n (by omega) (by omega) hn) ?_ ?_;push_cast [iO,tN];rintro r os ⟨rfl,rfl⟩;push_cast [iO,tN])  | ((first|refine pG ?_|refine pQ ?_|refine pU ?_);push_cast [iO,tN])|(refine pif (fun h=>?_) (fun h=>?_)<;>first|exact pN h|push_cast [iO,tN]))
  (refine retK_of [0] ?_;push_cast [iO,tN])
  simp [tapeAt,hlt]
 ·repeat' (first |  (refine plc [] (fold_pure ((k:Int) * 7 % 11) n (by omega) (by omega) hn) ?_ ?_;push_cast [iO,tN];rintro r os ⟨rfl,rfl⟩;push_cast [iO,tN])  | ((first|refine pG ?_|refine pQ ?_|refine pU ?_);push_cast [iO,tN])|(refine pif (fun h=>?_) (fun h=>?_)<;>first|exact pN h|push_cast [iO,tN]))
  (refine retK_of [0] ?_;push_cast [iO,tN])
  simp [tapeAt,hlt]
def strD (s:ByteArray):List D:=[.v (.string s)]
attribute [push_cast] strD
def pick (L:List Int) (k:Nat) (l:List ByteArray):ByteArray:=l.getD (fold (tapeAt L k) l.length).toNat default
theorem fold_bds (v n:Int) (hn:0 < n):0≤fold v n∧fold v n < n:=by
 unfold fold
 have:=Int.lt_tmod_of_pos v (b:=n) hn
 have:=Int.tmod_lt_of_pos v (b:=n) hn
 split
 ·omega
 ·split<;>omega
theorem one_pure (L:List Int) (k:Nat) (l:List ByteArray) (hk:k < 1000000) (h0:0 < l.length) (hn:l.length≤1000000) (hL:∀ x ∈ L,-9223372036854775808≤x∧x≤9223372036854775807) (hl:L.length≤9223372036854775807) :
  PCalls Tryz.prog 19 [.c (.ptr 0 0),.c (.sl 1 (l.map strD))] [tape L k] fun r os=>r = .c (.v (.string (pick L k l)))∧os=[tape L (k+1)]:=by
 refine pcalls_of Tryz.func19 rfl (by simp [Tryz.ntmps19]) ?_
 rw [Tryz.ntmps19,Tryz.results19]
 obtain ⟨hb,hb'⟩:=fold_bds (tapeAt L k) l.length (by omega)
 push_cast [iO,tN]
 repeat' (first |  (refine plc [0] (next_pure L k l.length hk (by omega) hL hl) ?_ ?_;push_cast [iO,tN];rintro r os ⟨rfl,rfl⟩;push_cast [iO,tN])  | ((first|refine pG ?_|refine pQ ?_|refine pU ?_);push_cast [iO,tN])|(refine pif (fun h=>?_) (fun h=>?_)<;>first|exact pN h|push_cast [iO,tN]))
 (refine retK_of [0] ?_;push_cast [iO,tN])
 simp [pick,List.getD]
theorem next_ex (L:List Int) (k:Nat) (n:Int) (hk:k < 1000000) (h0:0 < n) (hn:n≤9223372036854775807) (hL:∀ x ∈ L,-9223372036854775808≤x∧x≤9223372036854775807) (hl:L.length≤9223372036854775807) :
  PCalls Tryz.prog 14 [.c (.ptr 0 0),.c (.v (.int .i64 n))] [tape L k] fun r os=>∃ v:Int,(0≤v∧v < n)∧r = .c (.v (.int .i64 v))∧os=[tape L (k+1)] :=
 (next_pure L k n hk hn hL hl).mono fun r os h=>⟨_,fold_bds _ _ h0,h.1,h.2⟩
theorem one_ex (L:List Int) (k:Nat) (l:List ByteArray) (hk:k < 1000000) (h0:0 < l.length) (hn:l.length≤1000000) (hL:∀ x ∈ L,-9223372036854775808≤x∧x≤9223372036854775807) (hl:L.length≤9223372036854775807) :
  PCalls Tryz.prog 19 [.c (.ptr 0 0),.c (.sl 1 (l.map strD))] [tape L k] fun r os=>∃ s,s ∈ l∧r = .c (.v (.string s))∧os=[tape L (k+1)] :=
 (one_pure L k l hk h0 hn hL hl).mono fun r os h=>⟨_,by
  have:=fold_bds (tapeAt L k) l.length (by omega)
  unfold pick
  rw [getD_lt _ (by omega)]
  exact List.getElem_mem _,h.1,h.2⟩
end Go.Proofs.YtmjffgienmcabaaGreatDoor
namespace Go.Proofs.YtmjffgienmcabaaGreatDoor
open Go.RowKit
open IntWalk renaming iteOmega → iO, toNatUp → tN
set_option linter.unusedVariables false
set_option linter.unusedSimpArgs false
structure El where
 lit:Nat
 star:Bool
 set:List Bool
 deriving DecidableEq,Inhabited
def El.has (e:El) (b:UInt8):Bool:=e.set.getD b.toNat false
def anyTail (f:List UInt8 → Bool):List UInt8 → Bool
 | []=>f []
 | b :: s=>f (b :: s) || anyTail f s
def oneHead (e:El) (f:List UInt8 → Bool):List UInt8 → Bool
 | []=>false
 | b :: s=>e.has b && f s
def mat:List El → List UInt8 → Bool
 | [],s=>s.isEmpty
 | e :: l,s=>if e.star then anyTail (mat l) s else oneHead e (mat l) s
theorem anyTail_iff (f:List UInt8 → Bool):∀ s:List UInt8,anyTail f s=true ↔ ∃ j,j≤s.length∧f (s.drop j)=true
 | []=>by
  constructor
  ·intro h;exact ⟨0,Nat.le_refl _,h⟩
  ·rintro ⟨j,hj,h⟩
   have:j=0:=by simpa using hj
   subst this;exact h
 | b :: s=>by
  rw [anyTail,Bool.or_eq_true,anyTail_iff f s]
  constructor
  ·rintro (h|⟨j,hj,h⟩)
   ·exact ⟨0,Nat.zero_le _,h⟩
   ·exact ⟨j+1,by simp only [List.length_cons];omega,by simpa using h⟩
  ·rintro ⟨j,hj,h⟩
   cases j with
   | zero=>exact .inl h
   | succ j=>exact .inr ⟨j,by simp only [List.length_cons] at hj;omega,by simpa using h⟩
theorem mat_star {e:El} {l:List El} {s:List UInt8} (he:e.star=true):mat (e :: l) s=true ↔ ∃ j,j≤s.length∧mat l (s.drop j)=true:=by
 rw [mat,if_pos he,anyTail_iff]
theorem mat_one {e:El} {l:List El} {b:UInt8} {s:List UInt8} (he:e.star=false):mat (e :: l) (b :: s)=(e.has b && mat l s):=by
 rw [mat,if_neg (by simp [he]),oneHead]
theorem mat_end {e:El} {l:List El} (he:e.star=false):mat (e :: l) []=false:=by
 rw [mat,if_neg (by simp [he]),oneHead]
theorem mat_pre:∀ {p r:List El} {t:List UInt8},(∀ e ∈ p,e.star=false) → mat (p++r) t=true → p.length≤t.length∧mat r (t.drop p.length)=true
 | [],r,t,_,h=>⟨Nat.zero_le _,by simpa using h⟩
 | e :: p,r,[],hp,h=>by rw [List.cons_append,mat_end (hp e (by simp))] at h;cases h
 | e :: p,r,b :: t,hp,h=>by
  rw [List.cons_append,mat_one (hp e (by simp)),Bool.and_eq_true] at h
  have ih:=mat_pre (fun x hx=>hp x (by simp [hx])) h.2
  exact ⟨by simp only [List.length_cons];omega,by simpa using ih.2⟩
structure Way (l:List El) (s:List UInt8) (at_ i st f:Nat):Prop where
 hat:at_≤l.length
 hi:i≤s.length
 hf:f≤i
 hst:st≤at_
 h0:st=0 → (mat l s=true ↔ mat (l.drop at_) (s.drop i)=true)
 h1:0 < st → i - f=at_ - st∧(∀ e ∈ (l.drop st).take (at_ - st),e.star=false)∧(mat l s=true ↔ (mat (l.drop at_) (s.drop i)=true∨∃ j,f < j∧j≤s.length∧mat (l.drop st) (s.drop j)=true))
theorem Way.start (l:List El) (s:List UInt8):Way l s 0 0 0 0:=⟨Nat.zero_le _,Nat.zero_le _,Nat.le_refl _,Nat.le_refl _,fun _=>by simp,fun h=>absurd h (by omega)⟩
theorem drop_at {l:List El} {k:Nat} (h:k < l.length):l.drop k=l[k] :: l.drop (k+1):=List.drop_eq_getElem_cons h
theorem drop_byte {s:List UInt8} {k:Nat} (h:k < s.length):s.drop k=s[k] :: s.drop (k+1):=List.drop_eq_getElem_cons h
theorem Way.star {l:List El} {s:List UInt8} {at_ i st f:Nat} (w:Way l s at_ i st f) (h:at_ < l.length) (hs:l[at_].star=true):Way l s (at_+1) i (at_+1) i:=by
 refine ⟨by omega,w.hi,Nat.le_refl _,Nat.le_refl _,fun h=>by omega,fun _=>⟨by omega,by simp,?_⟩⟩
 have e1:mat (l.drop at_) (s.drop i)=true ↔ (mat (l.drop (at_+1)) (s.drop i)=true∨∃ j,i < j∧j≤s.length∧mat (l.drop (at_+1)) (s.drop j)=true):=by
  rw [drop_at h,mat_star hs]
  constructor
  ·rintro ⟨j,hj,hm⟩
   rw [List.drop_drop] at hm
   rw [List.length_drop] at hj
   cases j with
   | zero=>exact .inl (by simpa using hm)
   | succ j=>exact .inr ⟨i+(j+1),by omega,by have:=w.hi;omega,hm⟩
  ·rintro (hm|⟨j,h1,h2,hm⟩)
   ·exact ⟨0,Nat.zero_le _,by simpa using hm⟩
   ·exact ⟨j - i,by rw [List.length_drop];omega,by rw [List.drop_drop];rwa [show i+(j - i)=j by omega]⟩
 by_cases h0:st=0
 ·rw [w.h0 h0,e1]
 ·obtain ⟨k1,k2,k3⟩:=w.h1 (by omega)
  rw [k3,e1]
  constructor
  ·rintro (hm|⟨j,h1,h2,hm⟩)
   ·exact hm
   ·right
    have hsp:l.drop st=(l.drop st).take (at_ - st)++l.drop at_:=by
     conv=>lhs;rw [← List.take_append_drop (at_ - st) (l.drop st)]
     rw [List.drop_drop,show st+(at_ - st)=at_ by have:=w.hst;omega]
    rw [hsp] at hm
    obtain ⟨m1,m2⟩:=mat_pre k2 hm
    have hlen:((l.drop st).take (at_ - st)).length=at_ - st:=by rw [List.length_take,List.length_drop];omega
    rw [hlen] at m1 m2
    rw [List.length_drop] at m1
    rw [List.drop_drop,drop_at h,mat_star hs] at m2
    obtain ⟨q,hq,hm2⟩:=m2
    rw [List.length_drop] at hq
    rw [List.drop_drop] at hm2
    have:=w.hf
    exact ⟨j+(at_ - st)+q,by omega,by omega,hm2⟩
  ·exact .inl
theorem Way.step {l:List El} {s:List UInt8} {at_ i st f:Nat} (w:Way l s at_ i st f) (h:at_ < l.length) (hi:i < s.length) (hs:l[at_].star=false) (hh:l[at_].has s[i]=true):Way l s (at_+1) (i+1) st f:=by
 have e1:mat (l.drop at_) (s.drop i)=mat (l.drop (at_+1)) (s.drop (i+1)):=by rw [drop_at h,drop_byte hi,mat_one hs,hh,Bool.true_and]
 refine ⟨by omega,by omega,by have:=w.hf;omega,by have:=w.hst;omega,fun h0=>by rw [w.h0 h0,e1],fun h0=>?_⟩
 obtain ⟨k1,k2,k3⟩:=w.h1 h0
 have hst:=w.hst
 have hf:=w.hf
 refine ⟨by omega,fun e he=>?_,by rw [k3,e1]⟩
 rw [show at_+1 - st=(at_ - st)+1 by omega,List.take_add_one,List.mem_append] at he
 rcases he with he|he
 ·exact k2 e he
 ·rw [List.getElem?_drop,show st+(at_ - st)=at_ by omega,List.getElem?_eq_getElem h] at he
  simp at he
  rw [he];exact hs
theorem Way.back {l:List El} {s:List UInt8} {at_ i st f:Nat} (w:Way l s at_ i st f) (hi:i < s.length) (h0:0 < st) (hno:mat (l.drop at_) (s.drop i)=false):Way l s st (f+1) st (f+1):=by
 obtain ⟨k1,k2,k3⟩:=w.h1 h0
 have hst:=w.hst
 have hf:=w.hf
 have hat:=w.hat
 refine ⟨by omega,by omega,Nat.le_refl _,Nat.le_refl _,fun h=>by omega,fun _=>⟨by omega,by simp,?_⟩⟩
 rw [k3,hno]
 constructor
 ·rintro (h|⟨j,h1,h2,hm⟩)
  ·cases h
  ·by_cases e:j=f+1
   ·subst e;exact .inl hm
   ·exact .inr ⟨j,by omega,h2,hm⟩
 ·rintro (hm|⟨j,h1,h2,hm⟩)
  ·exact .inr ⟨f+1,by omega,by omega,hm⟩
  ·exact .inr ⟨j,by omega,h2,hm⟩
theorem Way.none {l:List El} {s:List UInt8} {at_ i f:Nat} (w:Way l s at_ i 0 f) (hno:mat (l.drop at_) (s.drop i)=false):mat l s=false:=by
 have:=w.h0 rfl
 rw [hno] at this
 simpa using this
theorem Way.fin {l:List El} {s:List UInt8} {at_ st f:Nat} (w:Way l s at_ s.length st f):mat l s=mat (l.drop at_) []:=by
 have hst:=w.hst
 have hf:=w.hf
 have hat:=w.hat
 rw [Bool.eq_iff_iff]
 by_cases h0:st=0
 ·rw [w.h0 h0,List.drop_length]
 ·obtain ⟨k1,k2,k3⟩:=w.h1 (by omega)
  rw [k3,List.drop_length]
  constructor
  ·rintro (h|⟨j,h1,h2,hm⟩)
   ·exact h
   ·exfalso
    have hsp:l.drop st=(l.drop st).take (at_ - st)++l.drop at_:=by
     conv=>lhs;rw [← List.take_append_drop (at_ - st) (l.drop st)]
     rw [List.drop_drop,show st+(at_ - st)=at_ by omega]
    rw [hsp] at hm
    have m1:=(mat_pre k2 hm).1
    rw [List.length_take,List.length_drop,List.length_drop] at m1
    omega
  ·exact .inl
theorem mat_miss {l:List El} {s:List UInt8} {at_ i:Nat} (hi:i < s.length) (h:at_ < l.length → (∃ h:at_ < l.length,l[at_].star=false∧l[at_].has s[i]=false)):mat (l.drop at_) (s.drop i)=false:=by
 by_cases ha:at_ < l.length
 ·obtain ⟨_,h1,h2⟩:=h ha
  rw [drop_at ha,drop_byte hi,mat_one h1,h2];rfl
 ·rw [List.drop_eq_nil_of_le (by omega),drop_byte hi];rfl
theorem mat_stars:∀ l:List El,mat l []=l.all (·.star)
 | []=>rfl
 | e :: l=>by
  cases he:e.star with
  | true =>
   rw [List.all_cons,he,Bool.true_and,← mat_stars l,Bool.eq_iff_iff,mat_star he]
   constructor
   ·rintro ⟨j,_,h⟩;simpa using h
   ·intro h;exact ⟨0,Nat.le_refl _,by simpa using h⟩
  | false=>rw [mat_end he,List.all_cons,he];rfl
def wayM (L S at_ st f:Nat):Nat:=(L - st) * ((S+1) * (L+2))+(S - f) * (L+2)+(L - at_)
theorem mat_parts:∀ {l:List El} {s:List UInt8},mat l s=true ↔ ∃ ss:List (List UInt8),s=ss.flatten∧All2 (fun (e:El) (t:List UInt8)=>e.star=true∨∃ b,t=[b]∧e.has b=true) l ss
 | [],s=>by
  constructor
  ·intro h;exact ⟨[],by simpa [mat] using h,trivial⟩
  ·rintro ⟨ss,rfl,h⟩
   rw [All2.nil_l] at h
   subst h;rfl
 | e :: l,s=>by
  have ih:=fun s=>mat_parts (l:=l) (s:=s)
  cases he:e.star with
  | true =>
   rw [mat_star he]
   constructor
   ·rintro ⟨j,hj,h⟩
    obtain ⟨ss,h1,h2⟩:=(ih _).1 h
    exact ⟨s.take j :: ss,by rw [List.flatten_cons,← h1,List.take_append_drop],.inl he,h2⟩
   ·rintro ⟨ss,rfl,h⟩
    obtain ⟨t,ts,rfl,h1,h2⟩:=All2.cons_l.1 h
    refine ⟨t.length,by rw [List.flatten_cons,List.length_append];omega,?_⟩
    rw [List.flatten_cons,List.drop_left]
    exact (ih _).2 ⟨ts,rfl,h2⟩
  | false =>
   cases s with
   | nil =>
    rw [mat_end he]
    constructor
    ·intro h;cases h
    ·rintro ⟨ss,hs,h⟩
     obtain ⟨t,ts,rfl,h1,h2⟩:=All2.cons_l.1 h
     rcases h1 with h1|⟨b,rfl,_⟩
     ·rw [he] at h1;cases h1
     ·simp at hs
   | cons b s =>
    rw [mat_one he,Bool.and_eq_true,ih]
    constructor
    ·rintro ⟨hb,ss,rfl,h⟩
     exact ⟨[b] :: ss,rfl,.inr ⟨b,rfl,hb⟩,h⟩
    ·rintro ⟨ss,hs,h⟩
     obtain ⟨t,ts,rfl,h1,h2⟩:=All2.cons_l.1 h
     rcases h1 with h1|⟨b',rfl,hb⟩
     ·rw [he] at h1;cases h1
     ·rw [List.flatten_cons,List.singleton_append] at hs
      injection hs with e1 e2
      subst e1 e2
      exact ⟨hb,ts,rfl,h2⟩
theorem all2_snoc {α β:Type} {R:α → β → Prop} {l:List α} {a:α} {m:List β}:All2 R (l++[a]) m ↔ ∃ m' b,m=m'++[b]∧All2 R l m'∧R a b:=by
 constructor
 ·intro h
  obtain ⟨x,y,rfl,h1,h2⟩:=h.split
  obtain ⟨b,y',rfl,h3,h4⟩:=All2.cons_l.1 h2
  rw [All2.nil_l] at h4
  subst h4
  exact ⟨x,b,rfl,h1,h3⟩
 ·rintro ⟨m',b,rfl,h1,h2⟩
  exact h1.append ⟨h2,trivial⟩
theorem mat_snoc_star {l:List El} {e:El} {s:List UInt8} {b:UInt8} (he:e.star=true):mat (l++[e]) (s++[b])=(mat l (s++[b]) || mat (l++[e]) s):=by
 rw [Bool.eq_iff_iff,Bool.or_eq_true,mat_parts,mat_parts,mat_parts]
 constructor
 ·rintro ⟨ss,hs,h⟩
  obtain ⟨ms,t,rfl,h1,h2⟩:=all2_snoc.1 h
  rw [List.flatten_append,List.flatten_cons,List.flatten_nil,List.append_nil] at hs
  rcases List.eq_nil_or_concat t with rfl|⟨t',c,rfl⟩
  ·exact .inl ⟨ms,by simpa using hs,h1⟩
  ·right
   rw [List.concat_eq_append,← List.append_assoc] at hs
   obtain ⟨h3,_⟩:=List.append_inj' hs rfl
   exact ⟨ms++[t'],by rw [h3];simp,all2_snoc.2 ⟨ms,t',rfl,h1,.inl he⟩⟩
 ·rintro (⟨ss,hs,h⟩|⟨ss,hs,h⟩)
  ·exact ⟨ss++[[]],by rw [hs];simp,all2_snoc.2 ⟨ss,[],rfl,h,.inl he⟩⟩
  ·obtain ⟨ms,t,rfl,h1,h2⟩:=all2_snoc.1 h
   exact ⟨ms++[t++[b]],by rw [hs];simp,all2_snoc.2 ⟨ms,_,rfl,h1,.inl he⟩⟩
theorem mat_snoc_one {l:List El} {e:El} {s:List UInt8} {b:UInt8} (he:e.star=false):mat (l++[e]) (s++[b])=(mat l s && e.has b):=by
 rw [Bool.eq_iff_iff,Bool.and_eq_true,mat_parts,mat_parts]
 constructor
 ·rintro ⟨ss,hs,h⟩
  obtain ⟨ms,t,rfl,h1,h2⟩:=all2_snoc.1 h
  rcases h2 with h2|⟨c,rfl,hc⟩
  ·rw [he] at h2;cases h2
  ·rw [List.flatten_append,List.flatten_cons,List.flatten_nil,List.append_nil] at hs
   obtain ⟨h3,h4⟩:=List.append_inj' hs rfl
   injection h4 with h4
   subst h4
   exact ⟨⟨ms,h3,h1⟩,hc⟩
 ·rintro ⟨⟨ss,rfl,h⟩,hb⟩
  exact ⟨ss++[[b]],by simp,all2_snoc.2 ⟨ss,_,rfl,h,.inr ⟨b,rfl,hb⟩⟩⟩
theorem mat_snoc_nil {l:List El} {e:El}:mat (l++[e]) []=(mat l [] && e.star):=by
 rw [mat_stars,mat_stars,List.all_append];simp
def plusL (cs:List Bool) (t:List UInt8):List Bool:=t.foldl (fun cs b=>cs.set b.toNat true) cs
theorem plusL_len:∀ (t:List UInt8) (cs:List Bool),(plusL cs t).length=cs.length
 | [],_=>rfl
 | b :: t,cs=>by have:=plusL_len t (cs.set b.toNat true);rw [List.length_set] at this;exact this
theorem plusL_get:∀ (t:List UInt8) (cs:List Bool) (b:UInt8),cs.length=256 → (plusL cs t).getD b.toNat false=(cs.getD b.toNat false || t.contains b)
 | [],cs,b,_=>by simp [plusL]
 | a :: t,cs,b,h=>by
  have hb:=b.toNat_lt
  have:=plusL_get t (cs.set a.toNat true) b (by rw [List.length_set];exact h)
  rw [show plusL cs (a :: t)=plusL (cs.set a.toNat true) t from rfl,this,List.contains_cons]
  by_cases e:b=a
  ·subst e
   have:(cs.set b.toNat true).getD b.toNat false=true:=by rw [List.getD_eq_getElem?_getD,List.getElem?_set_self (by omega)];rfl
   rw [this];simp
  ·have hne:a.toNat≠b.toNat:=fun h=>e (UInt8.toNat_inj.1 h.symm)
   have:(cs.set a.toNat true).getD b.toNat false=cs.getD b.toNat false:=by rw [List.getD_eq_getElem?_getD,List.getElem?_set_ne hne,← List.getD_eq_getElem?_getD]
   rw [this,show (b == a)=false by simpa using e,Bool.false_or]
def upperT:List UInt8:=[65,66,67,68,69,70,71,72,73,74,75,76,77,78,79,80,81,82,83,84,85,86,87,88,89,90]
def lowerT:List UInt8:=[97,98,99,100,101,102,103,104,105,106,107,108,109,110,111,112,113,114,115,116,117,118,119,120,121,122]
def digitT:List UInt8:=[48,49,50,51,52,53,54,55,56,57]
def moreT:List UInt8:=[95,46,58,43,45]
def noneL:List Bool:=List.replicate 256 false
def commonL:List Bool:=plusL (plusL (plusL (plusL noneL upperT) lowerT) digitT) moreT
theorem noneL_len:noneL.length=256:=List.length_replicate
def nameT:List UInt8:=upperT++lowerT++digitT++moreT++[33]
def nameB (b:UInt8):Bool:=nameT.contains b
def hasL (cs:List Bool) (s:ByteArray):Bool:=s.data.toList.all fun b=>cs.getD b.toNat false
def dotsS (s:ByteArray):Bool:=decide (s=⟨#[46]⟩) || decide (s=⟨#[46,46]⟩)
def validS (s:ByteArray):Bool:=(((decide (s≠⟨#[]⟩) && decide (s.size≤32)) && !dotsS s) && s.data.toList.all nameB)
def spl:List UInt8 → List (List UInt8)
 | []=>[[]]
 | b :: l=>if b=47 then [] :: spl l else match spl l with
  | []=>[[b]]
  | h :: t=>(b :: h) :: t
theorem spl_ne (l:List UInt8):spl l≠[]:=by
 cases l with
 | nil=>simp [spl]
 | cons b l=>rw [spl];split;simp;split<;>simp
theorem spl_none:∀ {l:List UInt8},(47:UInt8) ∉ l → spl l=[l]
 | [],_=>rfl
 | b :: l,h=>by
  simp only [List.mem_cons,not_or] at h
  rw [spl,if_neg (fun e=>h.1 e.symm),spl_none h.2]
theorem spl_app:∀ {a:List UInt8} (r:List UInt8),(47:UInt8) ∉ a → spl (a++47 :: r)=a :: spl r
 | [],r,_=>by rw [List.nil_append,spl,if_pos rfl]
 | b :: a,r,h=>by
  simp only [List.mem_cons,not_or] at h
  rw [List.cons_append,spl,if_neg (fun e=>h.1 e.symm),spl_app r h.2]
theorem splitK_spl:∀ (k:Nat) (s:List UInt8),s.count 47=k → Lib.splitK [47] 0 k s=spl s
 | 0,s,h=>by rw [spl_none (List.count_eq_zero.1 h)];rfl
 | k+1,s,h=>by
  have hmem:(47:UInt8) ∈ s:=List.count_pos_iff.1 (by omega)
  obtain ⟨a,r,rfl,ha⟩:∃ a r,s=a++47 :: r∧(47:UInt8) ∉ a:=by
   clear h
   induction s with
   | nil=>simp at hmem
   | cons b s ih =>
    by_cases e:b=47
    ·subst e;exact ⟨[],s,rfl,by simp⟩
    ·obtain ⟨a,r,rfl,ha⟩:=ih (by simpa [Ne.symm e] using hmem)
     exact ⟨b :: a,r,rfl,by simp [ha,Ne.symm e]⟩
  have hi:Lib.index (a++47 :: r) [47]=(a.length:Int):=by
   rw [Lib.index_one]
   clear h
   induction a with
   | nil=>simp [Lib.indexByte]
   | cons b a ih =>
    simp only [List.mem_cons,not_or] at ha
    have:=ih ha.2 (by simp)
    rw [List.cons_append,Lib.indexByte,if_neg (by simpa using Ne.symm ha.1),this,if_neg (by simp)]
    simp
  have hc:r.count 47=k:=by
   rw [List.count_append,List.count_cons_self,List.count_eq_zero.2 ha] at h
   omega
  rw [Lib.splitK,hi,if_neg (by simp),spl_app r ha]
  simp only [Int.toNat_natCast,Nat.add_zero,List.length_cons,List.length_nil,Nat.zero_add]
  rw [List.take_left,List.drop_append,List.drop_eq_nil_of_le (by omega),List.nil_append,show a.length+1 - a.length=1 by omega]
  simp only [List.drop_succ_cons,List.drop_zero]
  rw [splitK_spl k r hc]
def unT (l:List UInt8):ByteArray:=⟨l.toArray⟩
def parts (s:ByteArray):List ByteArray:=(spl s.data.toList).map unT
theorem parts_ne (s:ByteArray):0 < (parts s).length:=by
 unfold parts;rw [List.length_map];exact List.length_pos_iff.2 (spl_ne _)
theorem splitB_parts (s:ByteArray):Lib.splitB ⟨#[47]⟩ 0 (Lib.countB s ⟨#[47]⟩) s=parts s:=by
 have h:=Lib.splitB_data ⟨#[47]⟩ 0 (Lib.countB s ⟨#[47]⟩) s
 have hc:Lib.countB s ⟨#[47]⟩=s.data.toList.count 47:=Lib.count_one 47 s.data.toList
 have h2:=splitK_spl _ s.data.toList hc.symm
 have e:(⟨#[47]⟩:ByteArray).data.toList=[47]:=rfl
 rw [e,h2] at h
 unfold parts
 rw [← h,List.map_map]
 conv=>lhs;rw [← List.map_id (Lib.splitB _ _ _ _)]
 exact List.map_congr_left fun x _=>rfl
theorem parts_size:∀ {s:ByteArray},(parts s).length≤s.size+1:=by
 intro s
 unfold parts
 rw [List.length_map]
 have:∀ l:List UInt8,(spl l).length≤l.length+1:=by
  intro l
  induction l with
  | nil=>simp [spl]
  | cons b l ih =>
   rw [spl]
   split
   ·simp only [List.length_cons];omega
   ·split
    ·simp
    ·rename_i h t e;rw [e] at ih;simp only [List.length_cons] at ih ⊢;omega
 have h:=this s.data.toList
 rwa [show s.data.toList.length=s.size from rfl] at h
def cmpS (a b:ByteArray):Int:=if bless a b=true then -1 else if bless b a=true then 1 else 0
def cmpL:List ByteArray → List ByteArray → Int
 | [],[]=>0
 | [],_ :: _ => -1
 | _ :: _,[]=>1
 | a :: l,b :: m=>if a=b then cmpL l m else cmpS a b
theorem cmpS_eq {a b:ByteArray}:cmpS a b=0 ↔ a=b:=by
 unfold cmpS
 constructor
 ·intro h
  split at h
  ·omega
  ·split at h
   ·omega
   ·rename_i h1 h2;exact bless_total (by simpa using h1) (by simpa using h2)
 ·rintro rfl;rw [if_neg (fun h=>bless_ne h rfl),if_neg (fun h=>bless_ne h rfl)]
theorem cmpL_eq:∀ {l m:List ByteArray},cmpL l m=0 ↔ l=m
 | [],[]=>by simp [cmpL]
 | [],_ :: _=>by simp [cmpL]
 | _ :: _,[]=>by simp [cmpL]
 | a :: l,b :: m=>by
  rw [cmpL]
  split
  ·rename_i e;subst e;rw [cmpL_eq];simp
  ·rename_i e;rw [cmpS_eq];simp [e]
def nodeS (s:ByteArray):ByteArray:=⟨(Lib.replaceAll s.data.toList [33] [47]).toArray⟩
def textB (b:UInt8):Bool:=decide (32≤b.toNat) && decide (b.toNat≤126)
def textS (s:ByteArray):Bool:=s.data.toList.all textB && decide (s.size≤256)
theorem getD_byte {s:ByteArray} {k:Nat} (h:k < s.size):∃ h':k < s.data.toList.length,s.data.toList.getD k 0=s.data.toList[k]:=⟨h,by rw [List.getD_eq_getElem?_getD,List.getElem?_eq_getElem (show k < s.data.toList.length from h)];rfl⟩
theorem all_next {p:UInt8 → Bool} {s:ByteArray} {k:Nat} (h:k < s.size) (ha:(s.data.toList.take k).all p=true) (hp:p (s.data.toList.getD k 0)=true):(s.data.toList.take (k+1)).all p=true:=by
 obtain ⟨h',e⟩:=getD_byte h
 rw [List.take_succ_eq_append_getElem h',List.all_append,ha,← e,List.all_cons,hp];rfl
theorem all_not {p:UInt8 → Bool} {s:ByteArray} {k:Nat} (h:k < s.size) (hp:p (s.data.toList.getD k 0)=false):s.data.toList.all p=false:=by
 obtain ⟨h',e⟩:=getD_byte h
 exact List.all_eq_false.2 ⟨s.data.toList.getD k 0,by rw [e];exact List.getElem_mem _,by rw [hp];decide⟩
def ifaceS (s:ByteArray):Bool:=(validS s && decide (s.size≤15)) && !(s.data.toList.contains 58 || s.data.toList.contains 33)
theorem valid_size {s:ByteArray} (h:validS s=true):s.size≤32:=by
 unfold validS at h
 simp only [Bool.and_eq_true,decide_eq_true_eq] at h
 exact h.1.1.2
def linkL:List Bool:=plusL commonL [64,35,61,37]
def linkP (s:ByteArray):Bool:=(decide (s≠⟨#[]⟩) && !dotsS s) && hasL linkL s
def linkS (s:ByteArray):Bool:=decide (s.size≤256) && (parts s).all linkP
theorem part_size {s x:ByteArray} (h:x ∈ parts s):x.size≤s.size:=by
 have spl_mem:∀ {l x:List UInt8},x ∈ spl l → x.length≤l.length:=by
  intro l
  induction l with
  | nil=>intro x h;simp [spl] at h;subst h;simp
  | cons b l ih =>
   intro x h
   rw [spl] at h
   split at h
   ·rcases List.mem_cons.1 h with rfl|h
    ·simp
    ·have:=ih h;simp only [List.length_cons];omega
   ·split at h
    ·rename_i e;simp at h;subst h;simp
    ·rename_i y t e
     have hy:y ∈ spl l:=by rw [e];simp
     rcases List.mem_cons.1 h with rfl|h
     ·have:=ih hy;simp only [List.length_cons];omega
     ·have hx:x ∈ spl l:=by rw [e];simp [h]
      have:=ih hx;simp only [List.length_cons];omega
 unfold parts at h
 obtain ⟨y,hy,rfl⟩:=List.mem_map.1 h
 exact spl_mem hy
def byt (p:ByteArray) (i:Nat):UInt8:=p.data.toList.getD i 0
def fillN (cs:List Bool) (a:Nat):Nat → List Bool
 | 0=>cs
 | k+1=>(fillN cs a k).set (a+k) true
theorem fillN_len (cs:List Bool) (a:Nat):∀ n,(fillN cs a n).length=cs.length
 | 0=>rfl
 | n+1=>by rw [fillN,List.length_set,fillN_len cs a n]
theorem fillN_get (cs:List Bool) (a i:Nat):∀ n,(fillN cs a n).getD i false=(cs.getD i false || (decide (a≤i∧i < a+n) && decide (i < cs.length)))
 | 0=>by
  have:¬(a≤i∧i < a+0):=by omega
  rw [fillN,decide_eq_false this];simp
 | n+1=>by
  rw [fillN]
  by_cases h:a+n=i
  ·subst h
   by_cases hl:a+n < cs.length
   ·rw [List.getD_eq_getElem?_getD,List.getElem?_set_self (by rw [fillN_len];exact hl)]
    rw [decide_eq_true hl,decide_eq_true (by omega:a≤a+n∧a+n < a+(n+1))];simp
   ·have e:(fillN cs a n).set (a+n) true=fillN cs a n:=List.set_eq_of_length_le (by rw [fillN_len];omega)
    rw [e,fillN_get cs a (a+n) n,decide_eq_false hl];simp
  ·rw [List.getD_eq_getElem?_getD,List.getElem?_set_ne h,← List.getD_eq_getElem?_getD,fillN_get cs a i n]
   by_cases h2:a≤i∧i < a+n
   ·rw [decide_eq_true h2,decide_eq_true (by omega:a≤i∧i < a+(n+1))]
   ·rw [decide_eq_false h2,decide_eq_false (by omega:¬(a≤i∧i < a+(n+1)))]
def noneS:List Bool:=List.replicate 127 false
def everyL:List Bool:=fillN noneS 32 95
def rngQ (p:ByteArray) (i:Nat):Bool:=decide (i+2 < p.size) && (byt p (i+1) == 45) && (byt p (i+2) != 93)
def memTo (p:ByteArray) (i:Nat):UInt8:=if rngQ p i then byt p (i+2) else byt p i
def memAt (p:ByteArray) (i:Nat):Nat:=if rngQ p i then i+3 else i+1
def memS (p:ByteArray) (i:Nat) (cs:List Bool):List Bool:=fillN cs (byt p i).toNat ((memTo p i).toNat+1 - (byt p i).toNat)
theorem memAt_lt (p:ByteArray) (i:Nat):i < memAt p i:=by unfold memAt;split<;>omega
theorem memAt_le {p:ByteArray} {i:Nat} (h:i < p.size):memAt p i≤p.size:=by
 unfold memAt rngQ;split
 ·rename_i h2;simp only [Bool.and_eq_true,decide_eq_true_eq] at h2;omega
 ·omega
theorem memS_len (p:ByteArray) (i:Nat) (cs:List Bool):(memS p i cs).length=cs.length:=fillN_len _ _ _
def bsetGo (p:ByteArray) (i:Nat) (cs:List Bool):Option (List Bool × Nat) :=
 if h:p.size≤i then none
 else if byt p i=93 then some (cs,i)
 else if byt p i≤memTo p i then bsetGo p (memAt p i) (memS p i cs) else none
termination_by p.size - i
decreasing_by have:=memAt_lt p i;omega
def notN (cs:List Bool):Nat → List Bool
 | 0=>cs
 | k+1=>(notN cs k).set (32+k) (everyL.getD (32+k) false && !(notN cs k).getD (32+k) false)
theorem notN_len (cs:List Bool):∀ n,(notN cs n).length=cs.length
 | 0=>rfl
 | n+1=>by rw [notN,List.length_set,notN_len cs n]
def notS (cs:List Bool):List Bool:=notN cs 95
theorem everyL_get {k:Nat} (h:k < 95):everyL.getD (32+k) false=true:=by
 unfold everyL
 rw [fillN_get,decide_eq_true (by omega:32≤32+k∧32+k < 32+95),decide_eq_true (by show 32+k < 127;omega)]
 simp
theorem everyL_len:everyL.length=127:=by unfold everyL;rw [fillN_len];rfl
def notQ (p:ByteArray) (i:Nat):Bool:=decide (i < p.size) && (byt p i == 33)
def setJ (p:ByteArray) (i:Nat):Nat:=if notQ p i then i+1 else i
def bsetM (p:ByteArray) (i:Nat):Option (List Bool × Nat) :=
 if p.size≤setJ p i∨byt p (setJ p i)=93 then none
 else match bsetGo p (setJ p i) noneS with
  | none=>none
  | some r=>some (if notQ p i then notS r.1 else r.1,r.2+1)
theorem bsetGo_gt {p:ByteArray}:∀ {i:Nat} {cs:List Bool} {r:List Bool × Nat},bsetGo p i cs=some r → i≤r.2∧r.2 < p.size∧r.1.length=cs.length:=by
 intro i
 induction i using (measure fun i=>p.size - i).wf.induction with
 | _ i ih =>
  intro cs r h
  rw [bsetGo] at h
  split at h
  ·cases h
  ·rename_i h1
   split at h
   ·cases h;exact ⟨Nat.le_refl _,by omega,rfl⟩
   ·split at h
    ·have hm:=memAt_lt p i
     have:=ih (memAt p i) (by show p.size - memAt p i < p.size - i;omega) h
     rw [memS_len] at this
     exact ⟨by omega,this.2⟩
    ·cases h
theorem setJ_le (p:ByteArray) (i:Nat):i≤setJ p i:=by unfold setJ;split<;>omega
theorem bsetM_gt {p:ByteArray} {i:Nat} {r:List Bool × Nat} (h:bsetM p i=some r):i < r.2∧r.2≤p.size∧r.1.length=127:=by
 unfold bsetM at h
 split at h
 ·cases h
 ·cases hg:bsetGo p (setJ p i) noneS with
  | none=>rw [hg] at h;cases h
  | some q =>
   rw [hg] at h
   have:=bsetGo_gt hg
   have hj:=setJ_le p i
   cases h
   have hl:q.1.length=127:=by rw [this.2.2];rfl
   refine ⟨by show i < q.2+1;omega,by show q.2+1≤p.size;omega,?_⟩
   show (if notQ p i=true then notS q.1 else q.1).length=127
   split
   ·unfold notS;rw [notN_len];exact hl
   ·exact hl
def starEl:El:=⟨0,true,everyL⟩
def askEl:El:=⟨0,false,everyL⟩
def litEl (b:UInt8):El:=⟨b.toNat,false,noneS.set b.toNat true⟩
def altGo (p:ByteArray) (i:Nat) (l:List (List El)) (x:List El):Option (List (List El)) :=
 if h:p.size≤i then some (l++[x])
 else if byt p i=124 then altGo p (i+1) (l++[x]) []
 else if byt p i=42 then altGo p (i+1) l (x++[starEl])
 else if byt p i=63 then altGo p (i+1) l (x++[askEl])
 else if byt p i=91 then match hs:bsetM p (i+1) with
  | none=>none
  | some r=>altGo p r.2 l (x++[⟨0,false,r.1⟩])
 else altGo p (i+1) l (x++[litEl (byt p i)])
termination_by p.size - i
decreasing_by all_goals first|omega|(have:=bsetM_gt hs;omega)
def altsM (p:ByteArray):Option (List (List El)):=altGo p 0 [] []
def globM (p:ByteArray):Int:=if 256 < p.size then 21 else if !(p.data.toList.all textB) then 20 else match altsM p with|none=>20|some _=>0
def matchM (p s:ByteArray):Bool:=decide (globM p=0) && (s.data.toList.all textB) && match altsM p with|none=>false|some l=>l.any fun x=>mat x s.data.toList
end Go.Proofs.YtmjffgienmcabaaGreatDoor
