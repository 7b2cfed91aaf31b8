/- What the program computes, and the plain laws of it, part 3. -/
import Derived.Test.YthhfpcbpiphfiaaGreatDoorR2
namespace Go.Proofs.YthhfpcbpiphfiaaGreatDoor
open Go.RowKit
open IntWalk renaming iteOmega → iO, toNatUp → tN
set_option linter.unusedVariables false
set_option linter.unusedSimpArgs false
def unP (op:UnOp):Option PV → Option PV
 | some (.c (.v (.bool b)))=>match op with
  | .not=>some (.c (.v (.bool (!b))))
  | _=>none
 | some (.c (.v (.int k n)))=>match op with
  | .neg=>some (.c (.v (.int k (wr k (0 - n)))))
  | _=>none
 | _=>none
theorem unP_ok {P:Program} {N:Nat} {Γ:G} {s:S} {a:Act} {w:World} {op:UnOp} {t:TypeId} {x:Operand} {q:PV} {o:Oper} (ho:o.op = .unOp op t x) (h:unP op (s.ev x)=some q) (hI:Inv N Γ s a w) :
  ∃ y,RP w Γ q y∧∀ w',Any w w' → (execOp a.eval o).run P w' = .ok (.value y) w':=by
 unfold unP at h
 split at h
 ·rename_i b e
  have hx:=S.ev_ok e hI
  cases op<;>simp only [Option.some.injEq,reduceCtorEq] at h
  subst h
  exact ⟨_,⟨rfl,rfl⟩,fun w' _=>by simp [execOp,ho,hx.1,Op.unary]⟩
 ·rename_i k n e
  have hx:=S.ev_ok e hI
  cases op<;>simp only [Option.some.injEq,reduceCtorEq] at h
  subst h
  exact ⟨_,⟨rfl,rfl⟩,fun w' _=>by simp [execOp,ho,hx.1,Op.unary,Op.intArith,wr_eq]⟩
 ·cases h
def fdP (P:Program) (t:TypeId) (f:Nat):Option PV → Option PV
 | some (.agg cs)=>match fldOf P t f with
  | some (off,ty)=>match aggOf P ty,szOf P ty with
   | some true,some n=>if off+n≤cs.length then some (.agg ((cs.drop off).take n)) else none
   | some false,some _=>match cs[off]? with
    | some e=>some (.c e)
    | none=>none
   | _,_=>none
  | none=>none
 | _=>none
theorem agg_run {P:Program} {t:TypeId} {ag:Bool} (h:aggOf P t=some ag) (w:World):(isAgg t).run P w = .ok ag w:=by
 obtain ⟨d,hd,hag⟩:=Option.map_eq_some_iff.1 h
 unfold isAgg
 rw [Sem.run_bind,run_underlying hd w,← hag]
 cases d<;>simp
theorem sz_run {P:Program} {t:TypeId} {n:Nat} (h:szOf P t=some n) (w:World):(sizeOf t).run P w = .ok n w:=by
 obtain ⟨i,hi,hsz⟩:=Option.map_eq_some_iff.1 h
 simp [sizeOf,typeInfo,hi,hsz]
theorem fld_run {P:Program} {t:TypeId} {f off:Nat} {ty:TypeId} (h:fldOf P t f=some (off,ty)):∃ fs x,P.underlying t=some (.struct fs)∧fs[f]? = some x∧x.offset=off∧x.type=ty:=by
 unfold fldOf at h
 split at h
 ·rename_i fs hu
  split at h
  ·rename_i x hx
   split at h
   ·cases h;exact ⟨fs,x,hu,hx,rfl,rfl⟩
   ·cases h
  ·cases h
 ·cases h
theorem fdP_ok {P:Program} {N:Nat} {Γ:G} {s:S} {a:Act} {w:World} {t:TypeId} {x:Operand} {f:Nat} {q:PV} {o:Oper} (ho:o.op = .field t x f) (h:fdP P t f (s.ev x)=some q) (hI:Inv N Γ s a w) :
  ∃ y,RP w Γ q y∧∀ w',Any w w' → (execOp a.eval o).run P w' = .ok (.value y) w':=by
 unfold fdP at h
 split at h
 ·rename_i cs e
  obtain ⟨xs,hv,hx⟩:=S.ev_ok e hI
  split at h
  ·rename_i off ty hf
   obtain ⟨fs,x',hu,hx',rfl,rfl⟩:=fld_run hf
   split at h
   ·rename_i n ha hn
    split at h
    ·rename_i hle
     cases h
     refine ⟨_,⟨((xs.drop x'.offset).take n),rfl,(hx.drop _).take n⟩,fun w' _=>?_⟩
     simp [execOp,ho,hv,Instr.field,run_underlying hu,hx',part,asAgg,agg_run ha,sz_run hn]
    ·cases h
   ·rename_i n ha hn
    split at h
    ·rename_i e' he
     cases h
     obtain ⟨y,hy,hr⟩:=hx.get _ _ he
     refine ⟨y,hr,fun w' _=>?_⟩
     simp [execOp,ho,hv,Instr.field,run_underlying hu,hx',part,asAgg,agg_run ha,hy]
    ·cases h
   ·cases h
  ·cases h
 ·cases h
def exP (i:Nat):Option PV → Option PV
 | some (.two a b)=>match i with
  | 0=>some a
  | 1=>some b
  | _=>none
 | some (.three a b c)=>match i with
  | 0=>some a
  | 1=>some b
  | 2=>some c
  | _=>none
 | _=>none
theorem exP_ok {P:Program} {N:Nat} {Γ:G} {s:S} {a:Act} {w:World} {i:Nat} {x:Operand} {q:PV} {o:Oper} (ho:o.op = .extract x i) (h:exP i (s.ev x)=some q) (hI:Inv N Γ s a w) :
  ∃ y,RP w Γ q y∧∀ w',Any w w' → (execOp a.eval o).run P w' = .ok (.value y) w':=by
 unfold exP at h
 split at h
 ·rename_i p1 p2 e
  obtain ⟨y1,y2,hv,h1,h2⟩:=S.ev_ok e hI
  split at h<;>cases h
  ·exact ⟨_,h1,fun w' _=>by simp [execOp,ho,hv,Instr.extract]⟩
  ·exact ⟨_,h2,fun w' _=>by simp [execOp,ho,hv,Instr.extract]⟩
 ·rename_i p1 p2 p3 e
  obtain ⟨y1,y2,y3,hv,h1,h2,h3⟩:=S.ev_ok e hI
  split at h<;>cases h
  ·exact ⟨_,h1,fun w' _=>by simp [execOp,ho,hv,Instr.extract]⟩
  ·exact ⟨_,h2,fun w' _=>by simp [execOp,ho,hv,Instr.extract]⟩
  ·exact ⟨_,h3,fun w' _=>by simp [execOp,ho,hv,Instr.extract]⟩
 ·cases h
def byteP (P:Program) (t:TypeId):Option PV → Option PV → Option PV
 | some (.c (.v (.string s))),some (.c (.v (.int _ i)))=>if 0≤i∧i < s.size∧isStr P t=true then some (.c (.v (.int .u8 (s.data.toList.getD i.toNat 0).toNat))) else none
 | _,_=>none
theorem byteP_ok {P:Program} {N:Nat} {Γ:G} {s:S} {a:Act} {w:World} {t:TypeId} {x ix:Operand} {q:PV} {o:Oper} (ho:o.op = .index t x ix) (h:byteP P t (s.ev x) (s.ev ix)=some q) (hI:Inv N Γ s a w) :
  ∃ y,RP w Γ q y∧∀ w',Any w w' → (execOp a.eval o).run P w' = .ok (.value y) w':=by
 unfold byteP at h
 split at h
 ·rename_i b k i e1 e2
  have hx:=S.ev_ok e1 hI
  have hi:=S.ev_ok e2 hI
  split at h
  ·rename_i hc
   obtain ⟨h0,h1,h2⟩:=hc
   cases h
   have hu:=isStr_ok h2
   have hlt:i.toNat < b.size:=by omega
   refine ⟨_,⟨rfl,rfl⟩,fun w' _=>?_⟩
   have hg:b[i.toNat]? = some (b.data.toList.getD i.toNat 0):=by
    have h3:i.toNat < b.data.size:=hlt
    rw [getElem?_pos b i.toNat hlt]
    congr 1
    simp only [List.getD,Array.getElem?_toList,Array.getElem?_eq_getElem h3,Option.getD_some]
    rfl
   simp only [execOp,ho,hx.1,hi.1,Instr.index,asIntOf,Sem.run_bind,Sem.run_pure,Result.andThen_ok,run_underlying hu,if_pos h0,hg]
  ·cases h
 ·cases h
def lenP (P:Program) (t:TypeId):Option PV → Option PV
 | some (.c (.v (.string s)))=>if isStr P t=true then some (.c (.v (.int .i64 s.size))) else none
 | some (.c e)=>match elOf P t,lenE e with
  | some _,some n=>some (.c (.v (.int .i64 n)))
  | _,_=>none
 | _=>none
theorem el_run {P:Program} {t e:TypeId} {sz:Nat} (h:elOf P t=some (e,sz)):P.underlying t=some (.slice e)∧szOf P e=some sz:=by
 unfold elOf at h
 split at h
 ·rename_i e' hu
  obtain ⟨n',hn',he⟩:=Option.map_eq_some_iff.1 h
  cases he
  exact ⟨hu,hn'⟩
 ·cases h
theorem lenP_ok {P:Program} {N:Nat} {Γ:G} {s:S} {a:Act} {w:World} {t:TypeId} {x:Operand} {q:PV} {o:Oper} (ho:o.op = .call { callee:=.builtin .len,args := #[x],argTypes := #[t] }) (h:lenP P t (s.ev x)=some q) (hI:Inv N Γ s a w) :
  ∃ y,RP w Γ q y∧∀ w',Any w w' → (execOp a.eval o).run P w' = .ok (.value y) w':=by
 unfold lenP at h
 split at h
 ·rename_i b e
  have hx:=S.ev_ok e hI
  split at h
  ·rename_i hsk
   cases h
   have hu:=isStr_ok hsk
   exact ⟨_,⟨rfl,rfl⟩,fun w' _=>by simp [execOp,ho,resolve,invoke,builtin,Builtin.len_,run_underlying hu,hx.1,goInt]⟩
  ·cases h
 ·rename_i e _ ev
  have hx:=S.ev_ok ev hI
  split at h
  ·rename_i el n hel hn
   cases h
   obtain ⟨hu,_⟩:=el_run (e:=el.1) (sz:=el.2) hel
   obtain ⟨A,c,hv,_⟩:=lenE_ok hn hx
   exact ⟨_,⟨rfl,rfl⟩,fun w' _=>by simp [execOp,ho,resolve,invoke,builtin,Builtin.len_,run_underlying hu,hv,goInt]⟩
  ·cases h
 ·cases h
def mxI:Bool → Int → Int → Int
 | true,a,b=>if a < b then b else a
 | false,a,b=>if b < a then b else a
def mxF (mx:Bool):PV → List (Option PV) → Option PV
 | q,[]=>some q
 | .c (.v (.int k a)),some (.c (.v (.int _ b))) :: l=>mxF mx (.c (.v (.int k (mxI mx a b)))) l
 | _,_=>none
def mxP (mx:Bool):List (Option PV) → Option PV
 | some q :: l=>mxF mx q l
 | _=>none
theorem mxF_ok {P:Program} {N:Nat} {Γ:G} {s:S} {a:Act} {w:World} {mx:Bool} (hI:Inv N Γ s a w):∀ (l:List Operand) {q r:PV} {v:Value},mxF mx q (l.map s.ev)=some r → RP w Γ q v →
  ∃ y,RP w Γ r y∧∀ w',((l.map a.eval).foldlM (bif mx then Builtin.max2 else Builtin.min2) v).run P w' = .ok y w'
 | [],q,r,v,h,hv=>by
  simp only [List.map_nil,mxF,Option.some.injEq] at h
  subst h
  exact ⟨v,hv,fun w'=>rfl⟩
 | x :: l,q,r,v,h,hv=>by
  rw [List.map_cons] at h
  unfold mxF at h
  split at h
  ·rename_i heq
   cases heq
  ·rename_i k z k2 b rest heq
   injection heq with h1 h2
   subst h2
   have hx:=S.ev_ok h1 hI
   have hv':v = .int k z:=hv.1
   subst hv'
   obtain ⟨y,h3,h4⟩:=mxF_ok hI l (v:=.int k (mxI mx z b)) h ⟨rfl,rfl⟩
   refine ⟨y,h3,fun w'=>?_⟩
   rw [List.map_cons,List.foldlM_cons,Sem.run_bind]
   have h5:((bif mx then Builtin.max2 else Builtin.min2) (.int k z) (a.eval x)).run P w' = .ok (.int k (mxI mx z b)) w':=by
    rw [hx.1]
    cases mx<;>simp [Builtin.max2,Builtin.min2,mxI]
   rw [h5]
   exact h4 w'
  ·cases h
theorem mxP_ok {P:Program} {N:Nat} {Γ:G} {s:S} {a:Act} {w:World} {mx:Bool} {l:List Operand} {ts:Array TypeId} {q:PV} {o:Oper} (ho:o.op = .call ⟨.builtin (bif mx then .max else .min),⟨l⟩,ts⟩) (h:mxP mx (l.map s.ev)=some q) (hI:Inv N Γ s a w) :
  ∃ y,RP w Γ q y∧∀ w',Any w w' → (execOp a.eval o).run P w' = .ok (.value y) w':=by
 cases l with
 | nil=>cases h
 | cons x l =>
  rw [List.map_cons] at h
  unfold mxP at h
  split at h
  ·rename_i q0 l0 heq
   injection heq with h1 h2
   subst h2
   obtain ⟨y,h3,h4⟩:=mxF_ok (P:=P) hI l h (S.ev_ok h1 hI)
   refine ⟨y,h3,fun w' _=>?_⟩
   have h5:=h4 w'
   cases mx
   ·simp only [cond_false] at h5 ho
    simp only [execOp,ho,resolve,invoke,builtin,Builtin.min_,Sem.run_bind,Sem.run_pure,Result.andThen_ok,List.map_toArray,List.map_cons,h5]
   ·simp only [cond_true] at h5 ho
    simp only [execOp,ho,resolve,invoke,builtin,Builtin.max_,Sem.run_bind,Sem.run_pure,Result.andThen_ok,List.map_toArray,List.map_cons,h5]
  ·cases h
def loN:Option PV → Option Nat
 | some (.c (.v (.int _ i)))=>if 0≤i then some i.toNat else none
 | _=>none
def segP (os:List Ob) (k sz l h:Nat):Option PV:=match os[k]? with
 | some (.arr _ sz' rows)=>if sz'=sz∧l≤h∧h≤rows.length then some (.c (.seg k sz l (h - l))) else none
 | _=>none
def cutP (P:Program) (os:List Ob) (t:TypeId) (x:Option PV) (lo hi mx:Option (Option PV)):Option PV :=
 match (match lo with|none=>some 0|some v=>loN v),mx with
 | some l,none=>match x with
  | some (.c (.v (.string s)))=>match (match hi with|none=>some s.size|some v=>loN v) with
   | some h=>if l≤h∧h≤s.size∧isStr P t=true then some (.c (.v (.string (s.extract l h)))) else none
   | none=>none
  | some (.c (.v (.slice none 0 0)))=>match (match hi with|none=>some 0|some v=>loN v),elOf P t with
   | some h,some _=>if l≤h∧h≤0 then some (.c (.v (.slice none 0 0))) else none
   | _,_=>none
  | some (.c (.sl sz r))=>match (match hi with|none=>some r.length|some v=>loN v),(elOf P t).map (·.2) with
   | some h,some sz'=>if l≤h∧h≤r.length∧sz'=sz then some (.c (.sl sz ((r.take h).drop l))) else none
   | _,_=>none
  | some (.c (.full sz r))=>match (match hi with|none=>some r.length|some v=>loN v),(elOf P t).map (·.2) with
   | some h,some sz'=>if l≤h∧h≤r.length∧sz'=sz then some (.c (.sl sz ((r.take h).drop l))) else none
   | _,_=>none
  | some (.c (.own k n))=>match (match hi with|none=>some n|some v=>loN v),elOf P t with
   | some h,some (_,sz)=>if l=0∧h≤n then some (.c (.own k h)) else segP os k sz l h
   | _,_=>none
  | some (.c (.seg k sz lo n))=>match (match hi with|none=>some n|some v=>loN v),elOf P t with
   | some h,some (_,sz')=>if l≤h∧h≤n∧sz'=sz then some (.c (.seg k sz (lo+l) (h - l))) else none
   | _,_=>none
  | _=>none
 | some l,some mv=>match x,loN mv,(match hi with|none=>none|some v=>loN v),(elOf P t).map (·.2) with
  | some (.c (.sl sz r)),some m,some h,some sz'=>if l=0∧h≤m∧m≤r.length∧h=m∧sz'=sz then some (.c (.full sz (r.take h))) else none
  | some (.c (.full sz r)),some m,some h,some sz'=>if l=0∧h≤m∧m≤r.length∧h=m∧sz'=sz then some (.c (.full sz (r.take h))) else none
  | some (.c (.own k n)),some m,some h,some _=>if l≤h∧h≤m∧m≤n then some (.c .any) else none
  | _,_,_,_=>none
 | _,_=>none
theorem loN_ok {N:Nat} {Γ:G} {s:S} {a:Act} {w:World} {v:Operand} {n:Nat} (h:loN (s.ev v)=some n) (hI:Inv N Γ s a w):∃ k,a.eval v = .int k (n:Int):=by
 unfold loN at h
 split at h
 ·rename_i k i e
  have hx:=S.ev_ok e hI
  split at h
  ·rename_i h0
   cases h
   exact ⟨k,by rw [hx.1,Int.toNat_of_nonneg h0]⟩
  ·cases h
 ·cases h
def BdOk (a:Act) (d:Nat):Option Operand → Nat → Prop
 | none,n=>n=d
 | some v,n=>∃ k,a.eval v = .int k (n:Int)
theorem bd_ok {N:Nat} {Γ:G} {s:S} {a:Act} {w:World} {v:Option Operand} {d n:Nat} (h:(match v.map s.ev with|none=>some d|some q=>loN q)=some n) (hI:Inv N Γ s a w):BdOk a d v n:=by
 cases v with
 | none=>simp at h;exact h.symm
 | some v=>exact loN_ok (by simpa using h) hI
theorem run_bounds {P:Program} {a:Act} {len cap l h:Nat} {lo hi:Option Operand} (isS:Bool) (hl:BdOk a 0 lo l) (hh:BdOk a len hi h) (h1:l≤h) (h2:h≤cap) (w:World) :
  (Instr.sliceBounds isS len cap (lo.map a.eval) (hi.map a.eval) none).run P w = .ok (l,h,cap) w:=by
 have e1:((l:Int)≤h):=by omega
 have e2:((h:Int)≤cap):=by omega
 cases lo with
 | none =>
  simp only [BdOk] at hl
  subst hl
  cases hi with
  | none=>simp only [BdOk] at hh;subst hh;simp [Instr.sliceBounds]
  | some v =>
   obtain ⟨k,hv⟩:=hh
   simp [Instr.sliceBounds,Instr.sliceBound,hv,asIntOf,h2]
 | some u =>
  obtain ⟨k,hu⟩:=hl
  cases hi with
  | none=>simp only [BdOk] at hh;subst hh;simp [Instr.sliceBounds,Instr.sliceBound,hu,asIntOf,h1]
  | some v =>
   obtain ⟨k',hv⟩:=hh
   simp [Instr.sliceBounds,Instr.sliceBound,hu,hv,asIntOf,h1,h2]
theorem sl_cut {w:World} {I:Nat → Prop} {sz:Nat} {r:List (List D)} {A:Option Addr} {c l h:Nat} (hr:RD w I (.sl sz r) (.slice A r.length c)) (h1:l≤h) (h2:h≤r.length) :
  RD w I (.sl sz ((r.take h).drop l)) (.slice (if c=l then A else A.map (·.add (l * sz))) (h - l) (c - l)):=by
 obtain ⟨A',c',xs,he,hc,hrd,hl,hx⟩:=rd_sl.1 hr
 injection he with e1 e2 e3
 subst e1 e3
 have hlen:((r.take h).drop l).length=h - l:=by rw [List.length_drop,List.length_take];omega
 have hflat:∀ (q:List (List D)) (k:Nat),(∀ x ∈ q,x.length=sz) → k≤q.length → q.flatten.take (k * sz)=(q.take k).flatten∧q.flatten.drop (k * sz)=(q.drop k).flatten:=by
  intro q
  induction q with
  | nil=>intro k _ hk;simp at hk;subst hk;simp
  | cons x q ih =>
   intro k hx hk
   cases k with
   | zero=>simp
   | succ k =>
    obtain ⟨i1,i2⟩:=ih k (fun y hy=>hx y (by simp [hy])) (by simpa using hk)
    have hx0:x.length=sz:=hx x (by simp)
    have e1:(k+1) * sz=x.length+k * sz:=by rw [hx0,Nat.add_mul];omega
    constructor
    ·rw [e1];simp only [List.flatten_cons,List.take_succ_cons];rw [List.take_length_add_append,i1]
    ·rw [e1];simp only [List.flatten_cons,List.drop_succ_cons];rw [List.drop_length_add_append,i2]
 have hrows:∀ x ∈ r,x.length=sz:=hl
 have ht:=(hflat r h hrows h2).1
 have hrows2:∀ x ∈ r.take h,x.length=sz:=fun x hx=>hrows x (List.mem_of_mem_take hx)
 have hd:=(hflat (r.take h) l hrows2 (by rw [List.length_take];omega)).2
 rw [rd_sl]
 refine ⟨_,_,(xs.take (h * sz)).drop (l * sz),by rw [hlen],by omega,?_,fun x hx=>hrows2 x (List.mem_of_mem_drop hx),?_⟩
 ·have:=(hrd.take_ h2).cut (k:=l) (cap:=c) h1 (by omega)
  rw [hlen]
  exact this
 ·rw [← hd,← ht]
  exact (hx.take _).drop _
theorem cutP_ok {P:Program} {N:Nat} {Γ:G} {s:S} {a:Act} {w:World} {t:TypeId} {x:Operand} {lo hi mx:Option Operand} {q:PV} {o:Oper} (ho:o.op = .slice t x lo hi mx) (h:cutP P s.o t (s.ev x) (lo.map s.ev) (hi.map s.ev) (mx.map s.ev)=some q) (hI:Inv N Γ s a w) :
  ∃ y,RP w Γ q y∧∀ w',Any w w' → (execOp a.eval o).run P w' = .ok (.value y) w':=by
 have runS:∀ (e:TypeId) (sz:Nat) (A:Option Addr) (len cap l g:Nat),elOf P t=some (e,sz) → mx=none → a.eval x = .slice A len cap → BdOk a 0 lo l → BdOk a len hi g → l≤g → g≤cap →
   ∀ w':World,(execOp a.eval o).run P w' = .ok (.value (.slice (if cap=l then A else A.map (·.add (l * sz))) (g - l) (cap - l))) w':=by
  intro e sz A len cap l g hel hmx hv hl hg h1 h2 w'
  obtain ⟨hu,hsz⟩:=el_run hel
  subst hmx
  have hb:=run_bounds (P:=P) true hl hg h1 h2 w'
  simp [execOp,ho,Instr.sliceAt,Instr.slice,run_underlying hu,hv,hb,sz_run hsz]
 unfold cutP at h
 split at h
 ·rename_i l hl hmx
  have hmx':mx=none:=by cases mx<;>simp_all
  have hl':=bd_ok hl hI
  split at h
  ·rename_i b e
   have hx:=S.ev_ok e hI
   split at h
   ·rename_i g hg
    have hg':=bd_ok hg hI
    split at h
    ·rename_i hc
     cases h
     have hu:=isStr_ok hc.2.2
     subst hmx'
     refine ⟨_,⟨rfl,rfl⟩,fun w' _=>?_⟩
     have hb:=run_bounds (P:=P) false hl' hg' hc.1 hc.2.1 w'
     simp [execOp,ho,Instr.sliceAt,Instr.slice,run_underlying hu,hx.1,hb]
    ·cases h
   ·cases h
  ·rename_i e
   have hx:=S.ev_ok e hI
   split at h
   ·rename_i g el hg hel
    have hg':=bd_ok hg hI
    split at h
    ·rename_i hc
     cases h
     have h0:l=0∧g=0:=by omega
     obtain ⟨rfl,rfl⟩:=h0
     refine ⟨_,⟨rfl,rfl⟩,fun w' _=>?_⟩
     rw [runS el.1 el.2 none 0 0 0 0 hel hmx' hx.1 hl' hg' (Nat.le_refl _) (Nat.le_refl _) w']
     simp
    ·cases h
   ·cases h
  ·rename_i sz r e
   have hx:=S.ev_ok e hI
   obtain ⟨A,c,xs,hv,hc',_⟩:=rd_sl.1 hx
   split at h
   ·rename_i g sz' hg hel
    have hg':=bd_ok hg hI
    split at h
    ·rename_i hc
     obtain ⟨c1,c2,rfl⟩:=hc
     cases h
     obtain ⟨⟨el,_⟩,hel',rfl⟩:=Option.map_eq_some_iff.1 hel
     simp only [RP,RE] at hx
     rw [hv] at hx
     exact ⟨_,sl_cut hx c1 c2,fun w' _=>runS el _ A r.length c l g hel' hmx' hv hl' hg' c1 (by omega) w'⟩
    ·cases h
   ·cases h
  ·rename_i sz r e
   obtain ⟨hx,_⟩:=S.ev_ok e hI
   obtain ⟨A,c,xs,hv,hc',_⟩:=rd_sl.1 hx
   split at h
   ·rename_i g sz' hg hel
    have hg':=bd_ok hg hI
    split at h
    ·rename_i hc
     obtain ⟨c1,c2,rfl⟩:=hc
     cases h
     obtain ⟨⟨el,_⟩,hel',rfl⟩:=Option.map_eq_some_iff.1 hel
     rw [hv] at hx
     exact ⟨_,sl_cut hx c1 c2,fun w' _=>runS el _ A r.length c l g hel' hmx' hv hl' hg' c1 (by omega) w'⟩
    ·cases h
   ·cases h
  ·rename_i k n e
   obtain ⟨hk,hx⟩:=S.ev_ok e hI
   split at h
   ·rename_i g el sz hg hel
    have hg':=bd_ok hg hI
    split at h
    ·rename_i hc
     obtain ⟨rfl,hgn⟩:=hc
     cases h
     rcases hx with ⟨h0,⟨A,hv⟩,rfl⟩|⟨h0,hv,hn⟩
     ·have hg0:g=0:=by omega
      subst hg0
      refine ⟨_,⟨hk,.inl ⟨h0,⟨A,rfl⟩,rfl⟩⟩,fun w' _=>?_⟩
      rw [runS el sz A 0 0 0 0 hel hmx' hv hl' hg' (Nat.le_refl _) (Nat.le_refl _) w']
      simp
     ·refine ⟨_,⟨hk,.inr ⟨h0,rfl,by omega⟩⟩,fun w' _=>?_⟩
      rw [runS el sz _ n (Γ.cap k) 0 g hel hmx' hv hl' hg' (Nat.zero_le _) (by omega) w']
      rw [if_neg (by omega)]
      simp [Addr.add_lit]
    ·unfold segP at h
     split at h
     ·rename_i el' sz' rows hob
      split at h
      ·rename_i hc
       obtain ⟨rfl,c1,c2⟩:=hc
       cases h
       obtain ⟨_,_,g3,g4⟩:=hI.m.ob k _ hob
       rcases hx with ⟨h0,⟨A,hv⟩,rfl⟩|⟨h0,hv,hn⟩
       ·have hr0:=g3 h0
        subst hr0
        have hg0:g=0:=by simpa using c2
        subst hg0
        have hl0:l=0:=by omega
        subst hl0
        refine ⟨_,⟨hk,A,0,rfl,Nat.le_refl _,fun h=>absurd h (by omega)⟩,fun w' _=>?_⟩
        rw [runS el sz' A 0 0 0 0 hel hmx' hv hl' hg' (Nat.le_refl _) (Nat.le_refl _) w']
        simp
       ·obtain ⟨cur,_,_,hrc,_⟩:=g4 h0
        refine ⟨_,⟨hk,(if Γ.cap k=l then some ⟨Γ.β k,0,none⟩ else (some (⟨Γ.β k,0,none⟩:Addr)).map (·.add (l * sz'))),Γ.cap k - l,rfl,by omega,fun h=>⟨h0,by omega,?_⟩⟩,fun w' _=>?_⟩
        ·rw [if_neg (by omega)]
         simp [Addr.add_lit]
        ·rw [runS el sz' _ n (Γ.cap k) l g hel hmx' hv hl' hg' c1 (by omega) w']
      ·cases h
     ·cases h
   ·cases h
  ·rename_i k sz lo n e
   obtain ⟨hk,A,c,hv,hnc,hA⟩:=S.ev_ok e hI
   split at h
   ·rename_i g el sz' hg hel
    have hg':=bd_ok hg hI
    split at h
    ·rename_i hc
     obtain ⟨c1,c2,rfl⟩:=hc
     cases h
     refine ⟨_,⟨hk,(if c=l then A else A.map (·.add (l * sz'))),c - l,rfl,by omega,fun h=>?_⟩,fun w' _=>?_⟩
     ·obtain ⟨h1,h2,rfl⟩:=hA (by omega)
      refine ⟨h1,by omega,?_⟩
      rw [if_neg (by omega)]
      simp [Addr.add_lit,Nat.add_mul]
     ·rw [runS el sz' A n c l g hel hmx' hv hl' hg' c1 (by omega) w']
    ·cases h
   ·cases h
  ·cases h
 ·rename_i l mv hl hmx
  have hl':=bd_ok hl hI
  obtain ⟨m',rfl,rfl⟩:=Option.map_eq_some_iff.1 hmx
  have run3:∀ (e:TypeId) (sz:Nat) (A:Option Addr) (len cap m:Nat) (hv:Operand),hi=some hv → elOf P t=some (e,sz) → a.eval x = .slice A len cap → BdOk a 0 lo 0 → (∃ k,a.eval m' = .int k (m:Int)) → (∃ k,a.eval hv = .int k (m:Int)) → m≤cap →
    ∀ w':World,(execOp a.eval o).run P w' = .ok (.value (.slice (if m=0 then A else A.map (·.add (0 * sz))) (m - 0) (m - 0))) w':=by
   intro e sz A len cap m hv hhi hel hv' hl0 hm hh hmc w'
   obtain ⟨hu,hsz⟩:=el_run hel
   obtain ⟨k1,hm⟩:=hm
   obtain ⟨k2,hh⟩:=hh
   have e2:((m:Int)≤cap):=by omega
   subst hhi
   have hb:(Instr.sliceBounds true len cap (lo.map a.eval) (some (.int k2 m)) (some (.int k1 m))).run P w' = .ok (0,m,m) w':=by
    cases lo with
    | none=>simp [Instr.sliceBounds,Instr.sliceBound,asIntOf,hmc]
    | some u =>
     obtain ⟨k3,hu'⟩:=hl0
     simp [Instr.sliceBounds,Instr.sliceBound,hu',asIntOf,hmc]
   simp only [execOp,ho,Instr.sliceAt,Instr.slice,Sem.run_bind,Sem.run_pure,run_underlying hu,Result.andThen_ok,hv',hm,hh,Option.map_some,hb,sz_run hsz]
  have fin:∀ (sz:Nat) (r:List (List D)) (m g sz':Nat),RD w Γ.I (.sl sz r) (a.eval x) → loN (s.ev m')=some m → (match hi.map s.ev with|none=>none|some v=>loN v)=some g → (elOf P t).map (·.2)=some sz' →
    l=0∧g≤m∧m≤r.length∧g=m∧sz'=sz → ∃ y,RP w Γ (.c (.full sz (r.take g))) y∧∀ w',Any w w' → (execOp a.eval o).run P w' = .ok (.value y) w':=by
   intro sz r m g sz' hx hm hg hel hc
   obtain ⟨rfl,_,c2,rfl,rfl⟩:=hc
   obtain ⟨A,c,xs,hv,hc',_⟩:=rd_sl.1 hx
   obtain ⟨⟨el,_⟩,hel',rfl⟩:=Option.map_eq_some_iff.1 hel
   cases hi with
   | none=>simp at hg
   | some hv' =>
    have hg1:=loN_ok (by simpa using hg) hI
    have hm1:=loN_ok hm hI
    refine ⟨_,⟨?_,?_⟩,fun w' _=>run3 el _ A r.length c g hv' rfl hel' hv hl' hm1 hg1 (by omega) w'⟩
    ·rw [hv] at hx
     have:=sl_cut hx (Nat.zero_le g) c2
     simp only [List.drop_zero,Nat.sub_zero] at this ⊢
     obtain ⟨A2,c3,xs2,e2,e3,e4,e5,e6⟩:=rd_sl.1 this
     injection e2 with e7 e8 e9
     subst e7
     have hz:(r.take g).length=g:=by rw [List.length_take];omega
     rw [rd_sl]
     refine ⟨_,g,xs2,by rw [hz],by omega,?_,e5,e6⟩
     rw [hz] at e4 ⊢
     by_cases hg0:g=0
     ·rw [if_pos hg0];exact ⟨e4.1,fun h=>absurd h (by omega)⟩
     ·rw [if_neg hg0]
      by_cases hc0:c=0
      ·exfalso;omega
      ·rw [if_neg hc0] at e4;exact e4
    ·exact ⟨_,by rw [List.length_take,Nat.min_eq_left c2];rfl⟩
  split at h
  ·rename_i sz r m g sz' e hm hg hel
   split at h
   ·rename_i hc
    cases h
    exact fin sz r m g sz' (S.ev_ok e hI) hm hg hel hc
   ·cases h
  ·rename_i sz r m g sz' e hm hg hel
   split at h
   ·rename_i hc
    cases h
    exact fin sz r m g sz' (S.ev_ok e hI).1 hm hg hel hc
   ·cases h
  ·rename_i k n m g sz' e hm hg hel
   split at h
   ·rename_i hc
    obtain ⟨c1,c2,c3⟩:=hc
    cases h
    obtain ⟨⟨el,sz⟩,hel',rfl⟩:=Option.map_eq_some_iff.1 hel
    obtain ⟨A,cp,hv,hcp⟩:=lenE_ok (e:=.own k n) rfl (S.ev_ok e hI)
    cases hi with
    | none=>simp at hg
    | some hv' =>
     obtain ⟨k1,hm1⟩:=loN_ok hm hI
     obtain ⟨k2,hh1⟩:=loN_ok (by simpa using hg) hI
     obtain ⟨hu,hsz⟩:=el_run hel'
     have e1:((l:Int)≤g):=by omega
     have e2:((g:Int)≤m):=by omega
     have e3:((m:Int)≤cp):=by omega
     have hb:∀ w':World,(Instr.sliceBounds true n cp (lo.map a.eval) (some (a.eval hv')) (some (a.eval m'))).run P w' = .ok (l,g,m) w':=by
      intro w'
      cases lo with
      | none=>simp only [BdOk] at hl';subst hl';simp [Instr.sliceBounds,Instr.sliceBound,hm1,hh1,asIntOf,c2,show m≤cp by omega]
      | some u =>
       obtain ⟨k3,hu'⟩:=hl'
       simp [Instr.sliceBounds,Instr.sliceBound,hu',hm1,hh1,asIntOf,c1,c2,show m≤cp by omega]
     refine ⟨.slice (if m=l then A else A.map (·.add (l * sz))) (g - l) (m - l),?_,fun w' _=>?_⟩
     ·exact rfl
     ·simp only [execOp,ho,Instr.sliceAt,Instr.slice,Sem.run_bind,Sem.run_pure,run_underlying hu,Result.andThen_ok,hv,Option.map_some,hb,sz_run hsz]
   ·cases h
  ·cases h
 ·cases h
end Go.Proofs.YthhfpcbpiphfiaaGreatDoor
