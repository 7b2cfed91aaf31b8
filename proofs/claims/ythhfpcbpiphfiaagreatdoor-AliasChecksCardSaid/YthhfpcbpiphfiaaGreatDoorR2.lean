/- What the program computes, and the plain laws of it, part 2. -/
import Derived.Test.YthhfpcbpiphfiaaGreatDoorR1
namespace Go.Proofs.YthhfpcbpiphfiaaGreatDoor
open Go.RowKit
open IntWalk renaming iteOmega → iO, toNatUp → tN
set_option linter.unusedVariables false
set_option linter.unusedSimpArgs false
def szOf (P:Program) (t:TypeId):Option Nat:=(P.info? t).map (·.size)
def aggOf (P:Program) (t:TypeId):Option Bool:=(P.underlying t).map fun d=>match d with
 | .struct _ | .array _ _=>true
 | _=>false
def fldOf (P:Program) (t:TypeId) (f:Nat):Option (Nat × TypeId):=match P.underlying t with
 | some (.struct fs)=>match fs[f]? with
  | some x=>match szOf P x.type with
   | some (_+1)=>some (x.offset,x.type)
   | _=>none
  | none=>none
 | _=>none
def elOf (P:Program) (t:TypeId):Option (TypeId × Nat):=match P.underlying t with
 | some (.slice e)=>(szOf P e).map fun n=>(e,n)
 | _=>none
def wr (k:IntKind) (n:Int):Int:=match k with
 | .i64=>if -9223372036854775808≤n∧n≤9223372036854775807 then n else IntKind.i64.wrap n
 | .i32=>if -2147483648≤n∧n≤2147483647 then n else IntKind.i32.wrap n
 | .u8=>if 0≤n∧n≤255 then n else IntKind.u8.wrap n
 | .u32=>if 0≤n∧n≤4294967295 then n else IntKind.u32.wrap n
 | .u64=>if 0≤n∧n≤18446744073709551615 then n else IntKind.u64.wrap n
 | k=>k.wrap n
theorem wr_eq (k:IntKind) (n:Int):wr k n=k.wrap n:=by
 cases k<;>simp only [wr]<;>first|rfl|skip
 all_goals split
 all_goals first|rfl|skip
 ·rename_i h;exact (IntWalk.i32_in n h).symm
 ·rename_i h;exact (IntWalk.i64_in n h).symm
 ·rename_i h;exact (IntWalk.u8_in n h).symm
 ·rename_i h;exact (IntWalk.u32_in n h).symm
 ·rename_i h;exact (IntWalk.u64_in n h).symm
def quoN (k:IntKind) (a b:Int):Int:=if 0≤a∧1≤b then wr k (a / b) else wr k (a.tdiv b)
def remN (a b:Int):Int:=if 0≤a then a % b else a.tmod b
theorem quoN_eq (k:IntKind) (a b:Int):quoN k a b=k.wrap (a.tdiv b):=by
 unfold quoN
 split
 ·rename_i h;rw [wr_eq,Int.tdiv_eq_ediv_of_nonneg h.1]
 ·rw [wr_eq]
theorem remN_eq (a b:Int):remN a b=a.tmod b:=by
 unfold remN
 split
 ·rename_i h;rw [Int.tmod_eq_emod_of_nonneg h]
 ·rfl
def intOp (op:BinOp) (k:IntKind) (a b:Int):Option Value:=match op with
 | .add=>some (.int k (wr k (a+b)))
 | .sub=>some (.int k (wr k (a - b)))
 | .mul=>some (.int k (wr k (a * b)))
 | .quo=>if b=0 then none else some (.int k (quoN k a b))
 | .rem=>if b=0 then none else some (.int k (remN a b))
 | .eql=>some (.bool (decide (a=b)))
 | .neq=>some (.bool (decide (a≠b)))
 | .lss=>some (.bool (decide (a < b)))
 | .leq=>some (.bool (decide (a≤b)))
 | .gtr=>some (.bool (decide (b < a)))
 | .geq=>some (.bool (decide (b≤a)))
 | _=>none
def strOp (op:BinOp) (a b:ByteArray):Option Value:=match op with
 | .add=>if (a.size:Int)+b.size≤9223372036854775807 then some (.string (a++b)) else none
 | .eql=>some (.bool (decide (a=b)))
 | .neq=>some (.bool (decide (a≠b)))
 | .lss=>some (.bool (bless a b))
 | .leq=>some (.bool (!bless b a))
 | .gtr=>some (.bool (bless b a))
 | .geq=>some (.bool (!bless a b))
 | _=>none
theorem beq_text (a b:ByteArray):(a.toList == b.toList)=decide (a=b):=by
 rw [Bool.eq_iff_iff];simp [blist_inj]
theorem ble_text (a b:ByteArray):(bless a b || decide (a=b)) = !bless b a:=by
 cases h:bless a b
 ·cases h':bless b a
  ·simp [bless_total h h']
  ·have:=bless_ne h'
   simp [Ne.symm this]
 ·simp [bless_asymm h]
def binV (op:BinOp):Value → Value → Option Value
 | .int k a,.int k' b=>if k=k' then intOp op k a b else none
 | .string a,.string b=>strOp op a b
 | _,_=>none
theorem run_binV {P:Program} {op:BinOp} {x y r:Value} (t:TypeId) (h:binV op x y=some r) (w:World):(binOp op t x y).run P w = .ok r w:=by
 cases x<;>cases y<;>simp only [binV,reduceCtorEq] at h
 ·rename_i k a k' b
  split at h
  ·rename_i hk
   subst hk
   cases op<;>simp only [intOp,reduceCtorEq] at h
   case quo =>
    split at h
    ·cases h
    ·rename_i h0
     cases h
     simp [binOp,Op.intDiv,h0,quoN_eq]
   case rem =>
    split at h
    ·cases h
    ·rename_i h0
     cases h
     simp [binOp,Op.intDiv,h0,remN_eq]
   case eql=>cases h;simp [binOp,Op.intCmp];rw [Bool.eq_iff_iff,beq_iff_eq,decide_eq_true_eq]
   case neq=>cases h;simp [binOp,Op.intCmp,bne];rw [Bool.eq_iff_iff,beq_iff_eq,decide_eq_true_eq]
   all_goals (cases h;simp [binOp,Op.intArith,Op.intCmp,wr_eq])
  ·cases h
 ·rename_i a b
  cases op<;>simp only [strOp,reduceCtorEq] at h
  case add =>
   split at h
   ·rename_i h0
    cases h
    have:¬ (IntKind.max .i64 < ((a.size:Int)+b.size)):=by
     show ¬ (9223372036854775807 < ((a.size:Int)+b.size));omega
    simp [binOp,Op.stringOp,this]
    simpa using h0
   ·cases h
  case eql=>cases h;simp only [binOp,Op.stringOp,beq_text];rfl
  case neq=>cases h;simp only [binOp,Op.stringOp,beq_text];simp
  case lss=>cases h;rfl
  case leq =>
   cases h
   have:=ble_text a b
   simp only [bless] at this
   simp only [binOp,Op.stringOp,beq_text,this,bless];rfl
  case gtr =>
   cases h
   have:=ble_text a b
   simp only [bless] at this
   simp only [binOp,Op.stringOp,beq_text,this,bless,Bool.not_not];rfl
  case geq=>cases h;rfl
def ofVal:Value → Option PV
 | .agg xs=>if xs.toList.all Value.oneCell' then some (.agg (xs.toList.map E.v)) else none
 | .tuple _=>none
 | x=>some (.c (.v x))
def S.ev (s:S):Operand → Option PV
 | .tmp i=>s.get i
 | .const x=>ofVal x
 | .global g=>some (.c (.v (.pointer (some ⟨g,0,none⟩))))
 | .func f=>some (.c (.fn (.func f) [] []))
theorem ofVal_ok {w:World} {Γ:G} {x:Value} {q:PV} (h:ofVal x=some q):RP w Γ q x:=by
 cases x<;>simp only [ofVal,Option.some.injEq,reduceCtorEq] at h
 case agg xs =>
  split at h
  ·rename_i hx
   cases h
   refine ⟨xs.toList,by simp,All2.map_l.2 ?_⟩
   have:∀ l:List Value,l.all Value.oneCell'=true → All2 (fun a b=>RE w Γ (E.v a) b) l l:=by
    intro l
    induction l with
    | nil=>intro _;trivial
    | cons a l ih=>intro hl;simp at hl;exact ⟨⟨rfl,hl.1⟩,ih (by simpa using hl.2)⟩
   exact this _ hx
  ·cases h
 all_goals (subst h;exact ⟨rfl,rfl⟩)
theorem S.ev_ok {N:Nat} {Γ:G} {s:S} {a:Act} {w:World} {x:Operand} {q:PV} (h:s.ev x=some q) (hI:Inv N Γ s a w):RP w Γ q (a.eval x):=by
 cases x with
 | tmp i=>exact (hI.t i q h).2
 | const x=>exact ofVal_ok h
 | global g=>simp only [S.ev,Option.some.injEq] at h;subst h;exact ⟨rfl,rfl⟩
 | func f=>simp only [S.ev,Option.some.injEq] at h;subst h;exact ⟨[],rfl,fun _=>trivial,by simp⟩
def Any (w w':World):Prop:=True
theorem any_all {w:World} {A:Value → Prop} {B:Value → World → Prop} (h:∃ y,A y∧∀ w',Any w w' → B y w'):∃ y,A y∧∀ w',B y w':=by
 obtain ⟨y,h1,h2⟩:=h
 exact ⟨y,h1,fun w'=>h2 w' trivial⟩
structure Same (w w':World):Prop where
 size:w.heap.size≤w'.heap.size
 block:∀ b,b < w.heap.size → w'.heap[b]? = w.heap[b]?
theorem any_same {w:World} {A:Value → Prop} {B:Value → World → Prop} (h:∃ y,A y∧∀ w',Any w w' → B y w'):∃ y,A y∧∀ w',Same w w' → B y w':=by
 obtain ⟨y,h1,h2⟩:=h
 exact ⟨y,h1,fun w' _=>h2 w' trivial⟩
theorem Same.refl (w:World):Same w w:=⟨Nat.le_refl _,fun _ _=>rfl⟩
theorem Same.trans {w w' w'':World} (h:Same w w') (h':Same w' w''):Same w w'':=⟨Nat.le_trans h.size h'.size,fun b hb=>(h'.block b (Nat.lt_of_lt_of_le hb h.size)).trans (h.block b hb)⟩
theorem Same.of_ext {w w':World} (h:Ext No w w'):Same w w':=⟨h.size,fun b hb=>h.block b hb id⟩
theorem Same.cell {w w':World} (h:Same w w') {p:Addr} {u:Value} (hc:w.cell? p=some u):w'.cell? p=some u :=
 (World.cell?_of_block (h.block p.block (block_lt_of_cell hc))).trans hc
theorem Same.stay {w w':World} (h:Same w w') (I:Nat → Prop):Stay w I w' I:=⟨h.size,fun b _ hb=>h.block b hb,fun _ h=>h⟩
def rdCells (agg:Bool) (n:Nat) (cs:List E):Option PV:=match agg,cs with
 | true,cs=>if n≤cs.length then some (.agg (cs.take n)) else none
 | false,e :: _=>some (.c e)
 | false,[]=>none
def loadP (P:Program) (os:List Ob) (t:TypeId):Option PV → Option PV
 | some (.c (.ptr k off))=>match aggOf P t,szOf P t,os[k]? with
  | some ag,some n,some (.box _ cs)=>rdCells ag n (cs.drop off)
  | _,_,_=>none
 | some (.c (.row cs))=>match aggOf P t,szOf P t with
  | some ag,some n=>rdCells ag n (cs.map D.e)
  | _,_=>none
 | some (.c (.orow k sz i f))=>match aggOf P t,szOf P t,os[k]? with
  | some ag,some n,some (.arr _ sz' rows)=>if sz'=sz∧i < rows.length then rdCells ag n (((rows.getD i []).drop f).map D.e) else none
  | some ag,some n,some (.box _ cs)=>rdCells ag n (cs.drop (i * sz+f))
  | _,_,_=>none
 | _=>none
theorem run_loadVar_cells {P:Program} {w:World} {t:TypeId} {ag:Bool} {n b o:Nat} {cs:List E} {Γ:G} {xs:List Value} {q:PV} (ha:aggOf P t=some ag) (hn:szOf P t=some n)
  (hc:∀ j u,xs[j]? = some u → w.cell? ⟨b,o+j,none⟩=some u) (hx:All2 (RE w Γ) cs xs) (hq:rdCells ag n cs=some q) :
  ∃ y,RP w Γ q y∧∀ w',Same w w' → (loadVar t ⟨b,o,none⟩).run P w' = .ok y w':=by
 obtain ⟨d,hd,hag⟩:=Option.map_eq_some_iff.1 ha
 obtain ⟨i,hi,hsz⟩:=Option.map_eq_some_iff.1 hn
 have hagr:∀ w':World,(isAgg t).run P w' = .ok ag w':=by
  intro w'
  unfold isAgg
  rw [Sem.run_bind,run_underlying hd w']
  rw [← hag]
  cases d<;>simp
 cases ag with
 | true =>
  simp only [rdCells] at hq
  split at hq
  ·rename_i hle
   cases hq
   have hl:(xs.take n).length=n:=by rw [List.length_take,← hx.length];omega
   refine ⟨.agg (xs.take n).toArray,⟨xs.take n,rfl,hx.take n⟩,fun w' hS=>?_⟩
   have:=run_loadCells_list (P:=P) w' ⟨b,o,none⟩ (xs.take n) (fun j v hv=>by
    rw [Addr.add_lit]
    refine hS.cell (hc j v ?_)
    rw [List.getElem?_take] at hv
    split at hv
    ·exact hv
    ·cases hv)
   rw [hl] at this
   simp [loadVar,hagr,sizeOf,typeInfo,hi,hsz,this]
  ·cases hq
 | false =>
  cases cs with
  | nil=>simp [rdCells] at hq
  | cons e cs =>
   simp only [rdCells,Option.some.injEq] at hq
   subst hq
   obtain ⟨x,m,rfl,h1,h2⟩:=All2.cons_l.1 hx
   refine ⟨x,h1,fun w' hS=>?_⟩
   have:=hS.cell (hc 0 x (by simp))
   simp only [Nat.add_zero] at this
   simp [loadVar,hagr,this]
theorem loadP_ok {P:Program} {N:Nat} {Γ:G} {s:S} {a:Act} {w:World} {t:TypeId} {x:Operand} {q:PV} {o:Oper} (ho:o.op = .load t x) (h:loadP P s.o t (s.ev x)=some q) (hI:Inv N Γ s a w) :
  ∃ y,RP w Γ q y∧∀ w',Same w w' → (execOp a.eval o).run P w' = .ok (.value y) w':=by
 cases hev:s.ev x with
 | none=>rw [hev] at h;simp [loadP] at h
 | some p =>
  have hp:=S.ev_ok hev hI
  rw [hev] at h
  have fin:∀ (b f:Nat) (cs:List E) (xs:List Value) (ag:Bool) (n:Nat),a.eval x = .pointer (some ⟨b,f,none⟩) → aggOf P t=some ag → szOf P t=some n → (∀ j u,xs[j]? = some u → w.cell? ⟨b,f+j,none⟩=some u) →
    All2 (RE w Γ) cs xs → rdCells ag n cs=some q → ∃ y,RP w Γ q y∧∀ w',Same w w' → (execOp a.eval o).run P w' = .ok (.value y) w':=by
   intro b f cs xs ag n he ha hn hc hx hq
   obtain ⟨y,h1,h2⟩:=run_loadVar_cells ha hn hc hx hq
   refine ⟨y,h1,fun w' hS=>?_⟩
   simp [execOp,ho,Instr.loadAt,Instr.sureAddr,he,h2 w' hS]
  cases p with
  | c e =>
   cases e<;>simp only [loadP,reduceCtorEq] at h
   case ptr k off =>
    split at h
    ·rename_i ag n ty cs ha hn hk
     obtain ⟨hkn,he⟩:=hp
     obtain ⟨_,xs,hb,hx,_⟩:=hI.m.ob k _ hk
     refine fin _ off _ (xs.drop off) ag n he ha hn (fun j u hu=>?_) (hx.drop off) h
     rw [hb.cell]
     simpa using hu
    ·cases h
   case row cs =>
    split at h
    ·rename_i ag n ha hn
     obtain ⟨b,f,xs,he,_,_,hc,hx⟩:=hp
     exact fin b f _ xs ag n he ha hn hc (re_of_d hx) h
    ·cases h
   case orow k sz i f =>
    split at h
    ·rename_i ag n el sz' rows ha hn hk
     split at h
     ·rename_i hi
      obtain ⟨rfl,hi⟩:=hi
      obtain ⟨hkn,he⟩:=hp
      obtain ⟨h1,h0,h2,h3⟩:=hI.m.ob k _ hk
      have hcap:0 < Γ.cap k:=by
       rcases Nat.eq_zero_or_pos (Γ.cap k) with h4|h4
       ·rw [h2 h4] at hi;simp at hi
       ·exact h4
      obtain ⟨cur,hb,h5,h6,h7,h8⟩:=h3 hcap
      have hrow:All2 (RD w Γ.I) (rows.getD i []) ((cur.toList.drop (i * sz')).take sz'):=by
       have hfl:∀ (l:List (List D)) (m:List Value) (i:Nat),(∀ r ∈ l,r.length=sz') → All2 (RD w Γ.I) l.flatten m → i < l.length → All2 (RD w Γ.I) (l.getD i []) ((m.drop (i * sz')).take sz'):=by
        intro l
        induction l with
        | nil=>intro m i _ _ hi;simp at hi
        | cons r l ih =>
         intro m i hr hm hi
         simp only [List.flatten_cons] at hm
         obtain ⟨x1,x2,rfl,hx1,hx2⟩:=hm.split
         have hl1:x1.length=sz':=by rw [← hx1.length];exact hr r (by simp)
         cases i with
         | zero=>simp [← hl1];exact hx1
         | succ i =>
          have:=ih x2 i (fun r hr'=>hr r (by simp [hr'])) hx2 (by simpa using hi)
          have e1:(i+1) * sz'=x1.length+i * sz':=by rw [hl1,Nat.add_mul];omega
          rw [e1,List.drop_append,List.drop_eq_nil_of_le (by omega),List.nil_append,show x1.length+i * sz' - x1.length=i * sz' by omega]
          simpa using this
       have:=hfl rows _ i h1 h8 hi
       rw [List.drop_take,List.take_take] at this
       have hle:sz'≤rows.length * sz' - i * sz':=by rw [← Nat.sub_mul];exact Nat.le_mul_of_pos_left _ (by omega)
       rwa [Nat.min_eq_left hle] at this
      refine fin _ _ _ (((cur.toList.drop (i * sz')).take sz').drop f) ag n he ha hn (fun j u hu=>?_) (re_of_d (hrow.drop f)) h
      rw [hb.cell]
      rw [List.getElem?_drop,List.getElem?_take] at hu
      split at hu
      ·rw [List.getElem?_drop] at hu
       rw [← Array.getElem?_toList,← hu]
       congr 1
       omega
      ·cases hu
     ·cases h
    ·rename_i ag n ty cs ha hn hk
     obtain ⟨hkn,he⟩:=hp
     obtain ⟨_,xs,hb,hx,_⟩:=hI.m.ob k _ hk
     refine fin _ (i * sz+f) _ (xs.drop (i * sz+f)) ag n he ha hn (fun j u hu=>?_) (hx.drop (i * sz+f)) h
     rw [hb.cell]
     simpa using hu
    ·cases h
  | agg cs=>simp [loadP] at h
  | undef=>simp [loadP] at h
  | two a b=>simp [loadP] at h
  | three a b c=>simp [loadP] at h
def nilP:Option PV → Option PV
 | some (.c (.ptr k off))=>some (.c (.ptr k off))
 | some (.c (.row cs))=>some (.c (.row cs))
 | some (.c (.orow k sz i f))=>some (.c (.orow k sz i f))
 | some (.c (.fn f [] cap))=>match f with
  | .func g=>some (.c (.fn (.func g) [] cap))
  | _=>none
 | _=>none
theorem nilP_ok {P:Program} {N:Nat} {Γ:G} {s:S} {a:Act} {w:World} {x:Operand} {q:PV} {o:Oper} (ho:o.op = .nilCheck x) (h:nilP (s.ev x)=some q) (hI:Inv N Γ s a w) :
  ∃ y,RP w Γ q y∧∀ w',Any w w' → (execOp a.eval o).run P w' = .ok (.value y) w':=by
 cases hev:s.ev x with
 | none=>rw [hev] at h;simp [nilP] at h
 | some p =>
  have hp:=S.ev_ok hev hI
  rw [hev] at h
  refine ⟨a.eval x,?_,fun w' _=>?_⟩
  ·unfold nilP at h
   split at h<;>first|(cases h;done)|skip
   all_goals first|(cases h;rename_i e;injection e with e;subst e;exact hp)|skip
   split at h
   ·cases h;rename_i e;injection e with e;subst e;exact hp
   ·cases h
  ·unfold nilP at h
   split at h
   case h_1=>rename_i e;injection e with e;subst e;rw [execOp,ho];simp only [hp.2];rfl
   case h_2=>rename_i e;injection e with e;subst e;obtain ⟨b,f,xs,he,_⟩:=hp;rw [execOp,ho];simp only [he];rfl
   case h_3=>rename_i e;injection e with e;subst e;rw [execOp,ho];simp only [hp.2];rfl
   case h_4 =>
    rename_i e
    injection e with e
    subst e
    split at h
    ·obtain ⟨xs,he,h1,_⟩:=hp
     replace h1:=h1 rfl
     rw [All2.nil_l] at h1
     subst h1
     simp only [isBnd,fnV] at he
     rw [execOp,ho];simp only [he];rfl
    ·cases h
   case h_5=>cases h
def faP (P:Program) (t:TypeId) (f:Nat):Option PV → Option PV
 | some (.c (.ptr k off))=>(fldOf P t f).map fun x=>.c (.ptr k (off+x.1))
 | some (.c (.row cs))=>(fldOf P t f).map fun x=>.c (.row (cs.drop x.1))
 | some (.c (.orow k sz i g))=>(fldOf P t f).map fun x=>.c (.orow k sz i (g+x.1))
 | _=>none
theorem run_fieldAt {P:Program} {t:TypeId} {f:Nat} {off:Nat} {ty:TypeId} (h:fldOf P t f=some (off,ty)) (b o:Nat) (w:World) :
  (Instr.fieldAt t (.pointer (some ⟨b,o,none⟩)) f).run P w = .ok (.pointer (some ⟨b,o+off,none⟩)) w:=by
 unfold fldOf at h
 split at h
 ·rename_i fs hu
  split at h
  ·rename_i x hx
   split at h
   ·rename_i n hn
    cases h
    obtain ⟨i,hi,hsz⟩:=Option.map_eq_some_iff.1 hn
    simp [Instr.fieldAt,Instr.sureAddr,run_underlying hu,hx,fieldPlace,sizeOf,typeInfo,hi,hsz,Addr.add_lit]
   ·cases h
  ·cases h
 ·cases h
theorem faP_ok {P:Program} {N:Nat} {Γ:G} {s:S} {a:Act} {w:World} {t:TypeId} {x:Operand} {f:Nat} {q:PV} {o:Oper} (ho:o.op = .fieldAddr t x f) (h:faP P t f (s.ev x)=some q) (hI:Inv N Γ s a w) :
  ∃ y,RP w Γ q y∧∀ w',Any w w' → (execOp a.eval o).run P w' = .ok (.value y) w':=by
 cases hev:s.ev x with
 | none=>rw [hev] at h;simp [faP] at h
 | some p =>
  have hp:=S.ev_ok hev hI
  rw [hev] at h
  unfold faP at h
  split at h
  ·rename_i k off e
   injection e with e;subst e
   obtain ⟨⟨o1,ty⟩,hf,rfl⟩:=Option.map_eq_some_iff.1 h
   exact ⟨_,⟨hp.1,rfl⟩,fun w' _=>by simp [execOp,ho,hp.2,run_fieldAt hf]⟩
  ·rename_i cs e
   injection e with e;subst e
   obtain ⟨⟨o1,ty⟩,hf,rfl⟩:=Option.map_eq_some_iff.1 h
   obtain ⟨b,g,xs,he,h1,h2,h3,h4⟩:=hp
   exact ⟨_,⟨b,g+o1,xs.drop o1,rfl,h1,h2,fun j u hu=>by rw [Nat.add_assoc];exact h3 _ u (by simpa using hu),h4.drop o1⟩,fun w' _=>by simp [execOp,ho,he,run_fieldAt hf]⟩
  ·rename_i k sz i g e
   injection e with e;subst e
   obtain ⟨⟨o1,ty⟩,hf,rfl⟩:=Option.map_eq_some_iff.1 h
   exact ⟨_,⟨hp.1,rfl⟩,fun w' _=>by simp [execOp,ho,hp.2,run_fieldAt hf,Nat.add_assoc]⟩
  ·cases h
def lenE:E → Option Nat
 | .sl _ l=>some l.length
 | .full _ l=>some l.length
 | .own _ n=>some n
 | .seg _ _ _ n=>some n
 | .v (.slice _ 0 _)=>some 0
 | _=>none
theorem lenE_ok {w:World} {Γ:G} {e:E} {y:Value} {n:Nat} (h:lenE e=some n) (hr:RE w Γ e y):∃ A c,y = .slice A n c∧n≤c:=by
 unfold lenE at h
 split at h
 ·cases h;obtain ⟨A,c,xs,rfl,hc,_⟩:=rd_sl.1 hr;exact ⟨A,c,rfl,hc⟩
 ·cases h;obtain ⟨A,rfl⟩:=hr.2;exact ⟨A,_,rfl,Nat.le_refl _⟩
 ·cases h
  rcases hr.2 with ⟨_,⟨A,rfl⟩,rfl⟩|⟨_,rfl,hn⟩
  ·exact ⟨_,_,rfl,Nat.le_refl _⟩
  ·exact ⟨_,_,rfl,hn⟩
 ·cases h;obtain ⟨_,A,c,rfl,hc,_⟩:=hr;exact ⟨A,c,rfl,hc⟩
 ·cases h;obtain ⟨rfl,_⟩:=hr;exact ⟨_,_,rfl,Nat.zero_le _⟩
 ·cases h
def arrOf (P:Program) (t:TypeId):Option (Nat × Nat):=match P.underlying t with
 | some (.array n e)=>(szOf P e).map fun z=>(n,z)
 | _=>none
def ixP (P:Program) (t:TypeId):Option PV → Option PV → Option PV
 | some (.c (.sl sz l)),some (.c (.v (.int k i)))=>if 0≤i∧i < l.length∧(elOf P t).map (·.2)=some sz then some (.c (.row (l.getD i.toNat []))) else none
 | some (.c (.full sz l)),some (.c (.v (.int k i)))=>if 0≤i∧i < l.length∧(elOf P t).map (·.2)=some sz then some (.c (.row (l.getD i.toNat []))) else none
 | some (.c (.own j n)),some (.c (.v (.int k i)))=>match elOf P t with
  | some (_,sz)=>if 0≤i∧i < n then some (.c (.orow j sz i.toNat 0)) else none
  | none=>none
 | some (.c (.seg j sz lo n)),some (.c (.v (.int k i)))=>match elOf P t with
  | some (_,sz')=>if 0≤i∧i < n∧sz'=sz then some (.c (.orow j sz (lo+i.toNat) 0)) else none
  | none=>none
 | some (.c (.ptr j off)),some (.c (.v (.int k i)))=>match arrOf P t with
  | some (n,sz)=>if 0≤i∧i < n then some (.c (.ptr j (off+i.toNat * sz))) else none
  | none=>none
 | some (.c (.row cs)),some (.c (.v (.int k i)))=>match arrOf P t with
  | some (n,sz)=>if 0≤i∧i < n then some (.c (.row (cs.drop (i.toNat * sz)))) else none
  | none=>none
 | some (.c (.orow j z r f)),some (.c (.v (.int k i)))=>match arrOf P t with
  | some (n,sz)=>if 0≤i∧i < n then some (.c (.orow j z r (f+i.toNat * sz))) else none
  | none=>none
 | _,_=>none
theorem run_indexArr {P:Program} {t:TypeId} {n sz:Nat} (h:arrOf P t=some (n,sz)) (b o:Nat) (k:IntKind) (i:Int) (h0:0≤i) (h1:i < n) (w:World) :
  (Instr.indexAt t (.pointer (some ⟨b,o,none⟩)) (.int k i)).run P w = .ok (.pointer (some ⟨b,o+i.toNat * sz,none⟩)) w:=by
 unfold arrOf at h
 split at h
 ·rename_i n' e hu
  obtain ⟨z,hz,he⟩:=Option.map_eq_some_iff.1 h
  cases he
  obtain ⟨i',hi,hsz⟩:=Option.map_eq_some_iff.1 hz
  simp [Instr.indexAt,Instr.sureAddr,asIntOf,run_underlying hu,h0,h1,sizeOf,typeInfo,hi,hsz,Addr.add_lit]
 ·cases h
theorem run_indexAt {P:Program} {t e:TypeId} {sz:Nat} (h:elOf P t=some (e,sz)) (b o n c:Nat) (k:IntKind) (i:Int) (h0:0≤i) (h1:i < n) (w:World) :
  (Instr.indexAt t (.slice (some ⟨b,o,none⟩) n c) (.int k i)).run P w = .ok (.pointer (some ⟨b,o+i.toNat * sz,none⟩)) w:=by
 unfold elOf at h
 split at h
 ·rename_i e' hu
  obtain ⟨n',hn',he⟩:=Option.map_eq_some_iff.1 h
  cases he
  obtain ⟨i',hi,hsz⟩:=Option.map_eq_some_iff.1 hn'
  simp [Instr.indexAt,asIntOf,run_underlying hu,h0,h1,sizeOf,typeInfo,hi,hsz,Addr.add_lit]
 ·cases h
theorem flat_row {α:Type} {β:Type} {R:α → β → Prop} {sz:Nat}:∀ {l:List (List α)} {m:List β} {i:Nat},(∀ r ∈ l,r.length=sz) → All2 R l.flatten m → i < l.length → All2 R (l.getD i []) ((m.drop (i * sz)).take sz)
 | [],m,i,_,_,hi=>by simp at hi
 | r :: l,m,i,hr,hm,hi=>by
  simp only [List.flatten_cons] at hm
  obtain ⟨x1,x2,rfl,hx1,hx2⟩:=hm.split
  have hl1:x1.length=sz:=by rw [← hx1.length];exact hr r (by simp)
  cases i with
  | zero=>simp [← hl1];exact hx1
  | succ i =>
   have:=flat_row (i:=i) (fun r hr'=>hr r (by simp [hr'])) hx2 (by simpa using hi)
   have e1:(i+1) * sz=x1.length+i * sz:=by rw [hl1,Nat.add_mul];omega
   rw [e1,List.drop_append,List.drop_eq_nil_of_le (by omega),List.nil_append,show x1.length+i * sz - x1.length=i * sz by omega]
   simpa using this
theorem row_of_sl {w:World} {I:Nat → Prop} {sz:Nat} {l:List (List D)} {A:Option Addr} {c:Nat} {n i:Nat} (h:RD w I (.sl sz l) (.slice A n c)) (hi:i < l.length) :
  ∃ b o,A=some ⟨b,o,none⟩∧RowRep w I (l.getD i []) (.pointer (some ⟨b,o+i * sz,none⟩)):=by
 obtain ⟨A',c',xs,he,hc,hr,hl,hx⟩:=rd_sl.1 h
 injection he with e1 e2 e3
 subst e1 e2 e3
 obtain ⟨b,o,rfl,hI,hb,hcell⟩:=hr.get (by omega)
 refine ⟨b,o,rfl,b,o+i * sz,(xs.drop (i * sz)).take sz,rfl,hI,hb,fun j u hu=>?_,flat_row hl hx hi⟩
 rw [Nat.add_assoc]
 refine hcell _ u ?_
 rw [List.getElem?_take] at hu
 split at hu
 ·simpa using hu
 ·cases hu
theorem ixP_ok {P:Program} {N:Nat} {Γ:G} {s:S} {a:Act} {w:World} {t:TypeId} {x ix:Operand} {q:PV} {o:Oper} (ho:o.op = .indexAddr t x ix) (h:ixP P t (s.ev x) (s.ev ix)=some q) (hI:Inv N Γ s a w) :
  ∃ y,RP w Γ q y∧∀ w',Any w w' → (execOp a.eval o).run P w' = .ok (.value y) w':=by
 have key:∀ (sz:Nat) (l:List (List D)) (k:IntKind) (i:Int),RD w Γ.I (.sl sz l) (a.eval x) → a.eval ix = .int k i → 0≤i∧i < l.length∧(elOf P t).map (·.2)=some sz →
   ∃ y,RP w Γ (.c (.row (l.getD i.toNat []))) y∧∀ w',Any w w' → (execOp a.eval o).run P w' = .ok (.value y) w':=by
  intro sz l k i hr hix hc
  obtain ⟨h0,h1,h2⟩:=hc
  obtain ⟨⟨e,sz'⟩,hel,he⟩:=Option.map_eq_some_iff.1 h2
  simp only at he
  subst he
  obtain ⟨A,c,xs,hv,_⟩:=rd_sl.1 hr
  rw [hv] at hr
  obtain ⟨b,f,rfl,hrow⟩:=row_of_sl (i:=i.toNat) hr (by omega)
  exact ⟨_,hrow,fun w' _=>by simp [execOp,ho,hv,hix,run_indexAt hel b f l.length c k i h0 h1]⟩
 unfold ixP at h
 split at h
 ·rename_i sz l k i e1 e2
  have hx:=S.ev_ok e1 hI
  have hi:=S.ev_ok e2 hI
  split at h
  ·rename_i hc
   cases h
   exact key sz l k i hx hi.1 hc
  ·cases h
 ·rename_i sz l k i e1 e2
  have hx:=S.ev_ok e1 hI
  have hi:=S.ev_ok e2 hI
  split at h
  ·rename_i hc
   cases h
   exact key sz l k i hx.1 hi.1 hc
  ·cases h
 ·rename_i j n k i e1 e2
  have hx:=S.ev_ok e1 hI
  have hi:=S.ev_ok e2 hI
  split at h
  ·rename_i el sz hel
   split at h
   ·rename_i hc
    cases h
    obtain ⟨h1,h2⟩:=hx
    rcases h2 with ⟨_,_,h3⟩|⟨h3,h4,h5⟩
    ·subst h3;omega
    ·exact ⟨_,⟨h1,rfl⟩,fun w' _=>by simp [execOp,ho,h4,hi.1,run_indexAt hel (Γ.β j) 0 n (Γ.cap j) k i hc.1 hc.2]⟩
   ·cases h
  ·cases h
 ·rename_i j sz lo n k i e1 e2
  have hx:=S.ev_ok e1 hI
  have hi:=S.ev_ok e2 hI
  split at h
  ·rename_i el sz' hel
   split at h
   ·rename_i hc
    obtain ⟨c1,c2,rfl⟩:=hc
    cases h
    obtain ⟨h1,A,c,h2,h3,h4⟩:=hx
    obtain ⟨h5,h6,rfl⟩:=h4 (by omega)
    refine ⟨_,⟨h1,rfl⟩,fun w' _=>?_⟩
    simp [execOp,ho,h2,hi.1,run_indexAt hel (Γ.β j) (lo * sz') n c k i c1 c2,Nat.add_mul]
   ·cases h
  ·cases h
 ·rename_i j off k i e1 e2
  have hx:=S.ev_ok e1 hI
  have hi:=S.ev_ok e2 hI
  split at h
  ·rename_i n sz hel
   split at h
   ·rename_i hc
    cases h
    exact ⟨_,⟨hx.1,rfl⟩,fun w' _=>by simp [execOp,ho,hx.2,hi.1,run_indexArr hel (Γ.β j) off k i hc.1 hc.2]⟩
   ·cases h
  ·cases h
 ·rename_i cs k i e1 e2
  have hx:=S.ev_ok e1 hI
  have hi:=S.ev_ok e2 hI
  split at h
  ·rename_i n sz hel
   split at h
   ·rename_i hc
    cases h
    obtain ⟨b,o',xs,h1,h2,h3,h4,h5⟩:=hx
    refine ⟨_,⟨b,o'+i.toNat * sz,xs.drop (i.toNat * sz),rfl,h2,h3,fun j u hu=>?_,h5.drop _⟩,fun w' _=>by simp [execOp,ho,h1,hi.1,run_indexArr hel b o' k i hc.1 hc.2]⟩
    rw [List.getElem?_drop] at hu
    rw [Nat.add_assoc]
    exact h4 _ u hu
   ·cases h
  ·cases h
 ·rename_i j z r f k i e1 e2
  have hx:=S.ev_ok e1 hI
  have hi:=S.ev_ok e2 hI
  split at h
  ·rename_i n sz hel
   split at h
   ·rename_i hc
    cases h
    exact ⟨_,⟨hx.1,rfl⟩,fun w' _=>by simp [execOp,ho,hx.2,hi.1,run_indexArr hel (Γ.β j) (r * z+f) k i hc.1 hc.2,Nat.add_assoc]⟩
   ·cases h
  ·cases h
 ·cases h
def pickP:Option PV → Option PV → Option PV → Option PV
 | some (.c (.v (.bool true))),x,_=>x
 | some (.c (.v (.bool false))),_,y=>y
 | _,_,_=>none
theorem pickP_ok {P:Program} {N:Nat} {Γ:G} {s:S} {a:Act} {w:World} {c x z:Operand} {q:PV} {o:Oper} (ho:o.op = .pick c x z) (h:pickP (s.ev c) (s.ev x) (s.ev z)=some q) (hI:Inv N Γ s a w) :
  ∃ y,RP w Γ q y∧∀ w',Any w w' → (execOp a.eval o).run P w' = .ok (.value y) w':=by
 unfold pickP at h
 split at h
 ·rename_i e
  have hc:=S.ev_ok e hI
  exact ⟨_,S.ev_ok h hI,fun w' _=>by simp [execOp,ho,hc.1,asBool]⟩
 ·rename_i e
  have hc:=S.ev_ok e hI
  exact ⟨_,S.ev_ok h hI,fun w' _=>by simp [execOp,ho,hc.1,asBool]⟩
 ·cases h
inductive SK where
 | int|bool|str
def skOf (P:Program) (t:TypeId):Option SK:=match P.underlying t with
 | some (.int _)=>some .int
 | some .bool=>some .bool
 | some .string=>some .str
 | _=>none
def isStr (P:Program) (t:TypeId):Bool:=match P.underlying t with
 | some .string=>true
 | _=>false
def isBool (P:Program) (t:TypeId):Bool:=match P.underlying t with
 | some .bool=>true
 | _=>false
theorem isStr_ok {P:Program} {t:TypeId} (h:isStr P t=true):P.underlying t=some .string:=by
 unfold isStr at h
 split at h
 ·assumption
 ·cases h
theorem isBool_ok {P:Program} {t:TypeId} (h:isBool P t=true):P.underlying t=some .bool:=by
 unfold isBool at h
 split at h
 ·assumption
 ·cases h
def eqK1 (P:Program) (t:TypeId):Option (List SK):=match P.underlying t with
 | some (.struct fs)=>if P.stoodInHeld t=false∧P.eqGuardType P.depth t=false∧(fs.toList.zipIdx.all fun x=>decide (x.1.offset=x.2) && decide (x.1.name ≠ "_"))=true then fs.toList.mapM fun f=>skOf P f.type else none
 | _=>none
def eqKF (P:Program) (t:TypeId):Option (List SK):=match skOf P t with
 | some k=>some [k]
 | none=>match eqK1 P t,szOf P t with
  | some ks,some n=>if ks.length=n then some ks else none
  | _,_=>none
def eqKs (P:Program):Nat → List Field → Option (List SK)
 | _,[]=>some []
 | i,f :: fs=>if f.offset=i∧f.name ≠ "_" then (match eqKF P f.type with
  | some ks=>(eqKs P (i+ks.length) fs).map (ks ++ ·)
  | none=>none) else none
def eqKinds (P:Program) (t:TypeId):Option (List SK):=match P.underlying t with
 | some (.struct fs)=>if P.stoodInHeld t=false∧P.eqGuardType P.depth t=false then eqKs P 0 fs.toList else none
 | _=>none
def eqE:SK → E → E → Option Bool
 | .int,.v (.int k a),.v (.int k' b)=>if k=k' then some (decide (a=b)) else none
 | .bool,.v (.bool a),.v (.bool b)=>some (a == b)
 | .str,.v (.string a),.v (.string b)=>some (decide (a=b))
 | _,_,_=>none
def andO:Option Bool → Option Bool → Option Bool
 | some a,some b=>some (a && b)
 | _,_=>none
def eqEs:List SK → List E → List E → Option Bool
 | [],[],[]=>some true
 | [k],[a],[b]=>eqE k a b
 | k :: ks,a :: cs,b :: ds=>andO (eqE k a b) (eqEs ks cs ds)
 | _,_,_=>none
def isSl (P:Program) (t:TypeId):Bool:=match P.underlying t with
 | some (.slice _)=>true
 | _=>false
def isNilE:E → Option Bool
 | .sl _ l=>if 0 < l.length then some false else none
 | .full _ l=>if 0 < l.length then some false else none
 | .own _ n=>if 0 < n then some false else none
 | .seg _ _ _ n=>if 0 < n then some false else none
 | _=>none
def nilQ (P:Program) (op:BinOp) (t:TypeId) (e:E):Option PV:=if isSl P t=true then (match op,isNilE e with
 | .eql,some b=>some (.c (.v (.bool b)))
 | .neq,some b=>some (.c (.v (.bool (!b))))
 | _,_=>none) else none
def binP (P:Program) (op:BinOp) (t:TypeId):Option PV → Option PV → Option PV
 | some (.c (.v x)),some (.c (.v y))=>match op,x,y with
  | .eql,.bool a,.bool b=>if isBool P t=true then some (.c (.v (.bool (a == b)))) else none
  | .neq,.bool a,.bool b=>if isBool P t=true then some (.c (.v (.bool (a != b)))) else none
  | .eql,.slice A 0 c,.slice none 0 0=>if isSl P t=true then some (.c (.v (.bool A.isNone))) else none
  | .neq,.slice A 0 c,.slice none 0 0=>if isSl P t=true then some (.c (.v (.bool (!A.isNone)))) else none
  | .shr,.int .u64 a,.int _ b=>if b=1 then some (.c (.v (.int .u64 (a / 2)))) else none
  | op,x,y=>(binV op x y).map fun r=>.c (.v r)
 | some (.agg cs),some (.agg ds)=>match op,eqKinds P t with
  | .eql,some ks=>(eqEs ks cs ds).map fun b=>.c (.v (.bool b))
  | .neq,some ks=>(eqEs ks cs ds).map fun b=>.c (.v (.bool (!b)))
  | _,_=>none
 | some (.c e),some (.c (.v (.slice none 0 0)))=>nilQ P op t e
 | _,_=>none
theorem eqEs_cons (k:SK) (ks:List SK) (a b:E) (cs ds:List E) (r:Bool) (h:eqEs (k :: ks) (a :: cs) (b :: ds)=some r):∃ p q,eqE k a b=some p∧eqEs ks cs ds=some q∧r=(p && q):=by
 cases ks with
 | nil =>
  cases cs with
  | nil =>
   cases ds with
   | nil=>exact ⟨r,true,h,rfl,by simp⟩
   | cons d ds=>simp [eqEs,andO] at h
  | cons c cs=>simp [eqEs,andO] at h
 | cons k' ks =>
  simp only [eqEs] at h
  generalize eqE k a b=p at h
  generalize eqEs (k' :: ks) cs ds=q at h
  cases p<;>cases q<;>simp [andO] at h
  exact ⟨_,_,rfl,rfl,h.symm⟩
theorem run_eqE {P:Program} {w w0:World} {Γ:G} {t:TypeId} {k:SK} {a b:E} {x y:Value} {r:Bool} (d:Nat) (hk:skOf P t=some k) (h:eqE k a b=some r) (hx:RE w0 Γ a x) (hy:RE w0 Γ b y):(Op.equalIn (d+1) t x y).run P w = .ok r w:=by
 unfold eqE at h
 unfold skOf at hk
 split at h
 ·split at hk<;>cases hk
  rename_i k1 a1 k2 b1 _ kk hu
  split at h
  ·rename_i hkk
   subst hkk
   cases h
   rw [hx.1,hy.1,run_equalIn_int w d t k1 kk a1 b1 hu]
   congr 1
  ·cases h
 ·split at hk<;>cases hk
  rename_i hu
  cases h
  rw [hx.1,hy.1,run_equalIn_bool' w d t _ _ hu]
 ·split at hk<;>cases hk
  rename_i hu
  cases h
  rw [hx.1,hy.1,run_equalIn_string w d t _ _ hu,beq_text]
 ·cases h
theorem sk_flat {P:Program} {t:TypeId} {k:SK} (h:skOf P t=some k) (w:World):(isAgg t).run P w = .ok false w:=by
 unfold skOf at h
 unfold isAgg
 split at h<;>first|(cases h;done)|skip
 all_goals (rename_i hu;rw [Sem.run_bind,run_underlying hu w];rfl)
theorem run_eqFields {P:Program} {w w0:World} {Γ:G} (d:Nat) {xs ys:List Value}:∀ (fs:List Field) (ks:List SK) (i:Nat) (cs ds:List E) (r:Bool),
  (∀ j f,fs[j]? = some f → f.offset=i+j∧f.name ≠ "_") → fs.mapM (fun f=>skOf P f.type)=some ks → All2 (RE w0 Γ) cs (xs.drop i) → All2 (RE w0 Γ) ds (ys.drop i) → eqEs ks cs ds=some r →
  (Op.eqFields (d+1) xs.toArray ys.toArray fs).run P w = .ok r w
 | [],ks,i,cs,ds,r,_,hk,hx,hy,h=>by
  simp at hk
  subst hk
  cases cs<;>cases ds<;>simp [eqEs] at h
  subst h
  simp [Op.eqFields]
 | f :: fs,ks,i,cs,ds,r,hf,hk,hx,hy,h=>by
  rw [List.mapM_cons] at hk
  cases hk1:skOf P f.type with
  | none=>rw [hk1] at hk;simp at hk
  | some k =>
   cases hk2:fs.mapM (fun f=>skOf P f.type) with
   | none=>rw [hk1,hk2] at hk;simp at hk
   | some ks' =>
    rw [hk1,hk2] at hk
    simp at hk
    subst hk
    cases cs with
    | nil=>cases ks'<;>cases ds<;>simp [eqEs] at h
    | cons c cs =>
     cases ds with
     | nil=>cases ks'<;>cases cs<;>simp [eqEs] at h
     | cons e ds =>
      obtain ⟨p,q,h1,h2,rfl⟩:=eqEs_cons _ _ _ _ _ _ _ h
      obtain ⟨h3,h4⟩:=hf 0 f (by simp)
      obtain ⟨x,m,hxd,hx1,hx2⟩:=All2.cons_l.1 hx
      obtain ⟨y,m',hyd,hy1,hy2⟩:=All2.cons_l.1 hy
      have gx:xs[i]? = some x:=by have:=congrArg (·[0]?) hxd;simpa using this
      have gy:ys[i]? = some y:=by have:=congrArg (·[0]?) hyd;simpa using this
      have gx':xs.drop (i+1)=m:=by rw [← List.tail_drop,hxd];rfl
      have gy':ys.drop (i+1)=m':=by rw [← List.tail_drop,hyd];rfl
      have ih:=run_eqFields d (xs:=xs) (ys:=ys) (w:=w) fs ks' (i+1) cs ds q (fun j g hg=>by have:=hf (j+1) g (by simpa using hg);exact ⟨by omega,this.2⟩) hk2 (gx' ▸ hx2) (gy' ▸ hy2) h2
      simp only [Nat.add_zero] at h3
      have pa:=sk_flat hk1
      have hr:=run_eqE (w:=w) d hk1 h1 hx1 hy1
      simp only [Op.eqFields,if_pos h4,part,Sem.run_bind,pa w,Result.andThen_ok,h3,Bool.false_eq_true,if_false,List.getElem?_toArray,gx,gy,Sem.run_pure,hr,Sem.run_ite]
      cases p
      ·simp
      ·simp [ih]
theorem eqEs_mk {k:SK} {ks:List SK} {a b:E} {cs ds:List E} {p q:Bool} (h1:eqE k a b=some p) (h2:eqEs ks cs ds=some q):eqEs (k :: ks) (a :: cs) (b :: ds)=some (p && q):=by
 cases ks with
 | nil =>
  cases cs<;>cases ds<;>simp [eqEs] at h2
  subst h2
  simp [eqEs,h1]
 | cons k' ks =>
  simp only [eqEs,h1,h2,andO]
theorem eqEs_append:∀ (ks ks':List SK) (cs ds:List E) (r:Bool),eqEs (ks++ks') cs ds=some r → ∃ p q,eqEs ks (cs.take ks.length) (ds.take ks.length)=some p∧eqEs ks' (cs.drop ks.length) (ds.drop ks.length)=some q∧r=(p && q)
 | [],ks',cs,ds,r,h=>⟨true,r,by simp [eqEs],by simpa using h,by simp⟩
 | k :: ks,ks',cs,ds,r,h=>by
  cases cs with
  | nil=>cases hh:ks++ks'<;>simp [hh,eqEs] at h
  | cons c cs =>
   cases ds with
   | nil=>cases hh:ks++ks'<;>cases cs<;>simp [hh,eqEs] at h
   | cons d ds =>
    obtain ⟨p,q,h1,h2,rfl⟩:=eqEs_cons _ _ _ _ _ _ _ h
    obtain ⟨p2,q2,g1,g2,rfl⟩:=eqEs_append ks ks' cs ds q h2
    exact ⟨p && p2,q2,by simpa using eqEs_mk h1 g1,by simpa using g2,by rw [Bool.and_assoc]⟩
theorem all2_take {α β:Type} {R:α → β → Prop}:∀ {l:List α} {m:List β} (n:Nat),All2 R l m → All2 R (l.take n) (m.take n)∧All2 R (l.drop n) (m.drop n)
 | [],m,n,h=>by
  cases m with
  | nil=>simp [All2]
  | cons y m=>simp [All2] at h
 | x :: l,m,0,h=>by simpa [All2] using h
 | x :: l,m,n+1,h=>by
  obtain ⟨y,m',rfl,h1,h2⟩:=All2.cons_l.1 h
  obtain ⟨g1,g2⟩:=all2_take n h2
  exact ⟨by simp only [List.take_succ_cons];exact All2.cons_l.2 ⟨y,_,rfl,h1,g1⟩,by simpa using g2⟩
theorem run_eqF {P:Program} {w w0:World} {Γ:G} (d:Nat) {xs ys:List Value} {t:TypeId} {ks:List SK} {i:Nat} {cs ds:List E} {p:Bool} (hk:eqKF P t=some ks)
  (hx:All2 (RE w0 Γ) cs (xs.drop i)) (hy:All2 (RE w0 Γ) ds (ys.drop i)) (h:eqEs ks (cs.take ks.length) (ds.take ks.length)=some p) :
  ∃ a b,(part t xs.toArray i).run P w = .ok a w∧(part t ys.toArray i).run P w = .ok b w∧(Op.equalIn (d+2) t a b).run P w = .ok p w:=by
 unfold eqKF at hk
 split at hk
 ·rename_i k hs
  cases hk
  cases cs with
  | nil=>simp [eqEs] at h
  | cons c cs =>
   cases ds with
   | nil=>simp [eqEs] at h
   | cons e ds =>
    simp only [List.length_cons,List.length_nil,Nat.zero_add,List.take_succ_cons,List.take_zero] at h
    have h1:eqE k c e=some p:=by simpa [eqEs] using h
    obtain ⟨x,m,hxd,hx1,hx2⟩:=All2.cons_l.1 hx
    obtain ⟨y,m',hyd,hy1,hy2⟩:=All2.cons_l.1 hy
    have gx:xs[i]? = some x:=by have:=congrArg (·[0]?) hxd;simpa using this
    have gy:ys[i]? = some y:=by have:=congrArg (·[0]?) hyd;simpa using this
    have pa:=sk_flat hs
    exact ⟨x,y,by simp [part,Sem.run_bind,pa w,gx],by simp [part,Sem.run_bind,pa w,gy],run_eqE (w:=w) (d+1) hs h1 hx1 hy1⟩
 ·split at hk
  ·rename_i ks1 n h1 hn
   split at hk
   ·rename_i hl
    cases hk
    unfold eqK1 at h1
    split at h1
    ·rename_i fs hu
     split at h1
     ·rename_i hc
      obtain ⟨c1,c2,c3⟩:=hc
      have hfo:P.fieldsOf t=fs:=by simp [Program.fieldsOf,hu]
      have hag:(isAgg t).run P w = .ok true w:=by unfold isAgg;rw [Sem.run_bind,run_underlying hu w];rfl
      obtain ⟨inf,hi,hsz⟩:∃ inf,P.info? t=some inf∧inf.size=n:=by
       unfold szOf at hn
       cases hi:P.info? t with
       | none=>rw [hi] at hn;cases hn
       | some inf=>rw [hi] at hn;cases hn;exact ⟨inf,rfl,rfl⟩
      have hpt:∀ zs:List Value,(part t zs.toArray i).run P w = .ok (.agg ((zs.drop i).take n).toArray) w:=fun zs=>by
       simp [part,Sem.run_bind,hag,sizeOf,typeInfo,hi,hsz]
      refine ⟨_,_,hpt xs,hpt ys,?_⟩
      rw [run_equalIn_struct w (d+1) t _ _ (by rw [hfo];exact hu) c1,hfo]
      refine run_eqFields d (w0:=w0) (Γ:=Γ) fs.toList ks 0 (cs.take ks.length) (ds.take ks.length) p (fun j f hf=>?_) h1 (by rw [← hl];simpa using (all2_take _ hx).1) (by rw [← hl];simpa using (all2_take _ hy).1) h
      have:=List.all_eq_true.1 c3 (f,j) (by rw [List.mem_zipIdx_iff_getElem?];simpa using hf)
      simp at this
      exact ⟨by omega,this.2⟩
     ·cases h1
    ·cases h1
   ·cases hk
  ·cases hk
theorem run_eqFields2 {P:Program} {w w0:World} {Γ:G} (d:Nat) {xs ys:List Value}:∀ (fs:List Field) (ks:List SK) (i:Nat) (cs ds:List E) (r:Bool),
  eqKs P i fs=some ks → All2 (RE w0 Γ) cs (xs.drop i) → All2 (RE w0 Γ) ds (ys.drop i) → eqEs ks cs ds=some r →
  (Op.eqFields (d+2) xs.toArray ys.toArray fs).run P w = .ok r w
 | [],ks,i,cs,ds,r,hk,hx,hy,h=>by
  simp only [eqKs] at hk
  cases hk
  cases cs<;>cases ds<;>simp [eqEs] at h
  subst h
  simp [Op.eqFields]
 | f :: fs,ks,i,cs,ds,r,hk,hx,hy,h=>by
  simp only [eqKs] at hk
  split at hk
  ·rename_i hc
   obtain ⟨c1,c2⟩:=hc
   split at hk
   ·rename_i k1 hk1
    obtain ⟨k2,hk2,rfl⟩:=Option.map_eq_some_iff.1 hk
    obtain ⟨p,q,g1,g2,rfl⟩:=eqEs_append k1 k2 cs ds r h
    obtain ⟨a,b,e1,e2,e3⟩:=run_eqF (w:=w) d hk1 hx hy g1
    have ih:=run_eqFields2 (w:=w) d fs k2 (i+k1.length) (cs.drop k1.length) (ds.drop k1.length) q hk2 (by have:=(all2_take k1.length hx).2;rwa [List.drop_drop] at this) (by have:=(all2_take k1.length hy).2;rwa [List.drop_drop] at this) g2
    simp only [Op.eqFields,if_pos c2,c1,Sem.run_bind,e1,e2,e3,Result.andThen_ok]
    cases p
    ·simp
    ·simp [ih]
   ·cases hk
  ·cases hk
theorem guard_scalar {P:Program} (op:BinOp) (t:TypeId) (x z:Operand) (u v:Value) (h1:∀ xs,u≠.agg xs) (h2:u≠.nilIface) (w:World):(eqGuard op t x z u v).run P w = .ok () w:=by
 unfold eqGuard
 cases u<;>first|exact absurd rfl (h1 _)|exact absurd rfl h2|(cases op<;>rfl)
theorem run_binOp_eq {P:Program} (t:TypeId) {u v:Value} {r:Bool} (w:World) (hu:(∀ k n,u≠.int k n)∧(∀ s,u≠.string s)) (hf:(∀ k n,u≠.float k n)∧(∀ k n m,u≠.complex k n m)) (h:(Op.equalIn (9999+1) t u v).run P w = .ok r w) :
  (binOp .eql t u v).run P w = .ok (.bool r) w∧(binOp .neq t u v).run P w = .ok (.bool (!r)) w:=by
 have h':(Op.equal t u v).run P w = .ok r w:=h
 constructor
 ·unfold binOp
  split<;>simp_all
 ·unfold binOp
  split<;>simp_all
theorem isNil_ok {w:World} {Γ:G} {e:E} {y:Value} {b:Bool} (h:isNilE e=some b) (hr:RE w Γ e y):∃ A n c,y = .slice A n c∧A.isNone=b:=by
 unfold isNilE at h
 split at h<;>first|(cases h;done)|skip
 ·split at h<;>cases h
  rename_i hl
  obtain ⟨A,c,xs,rfl,_,hrd,_⟩:=rd_sl.1 hr
  obtain ⟨b,o,rfl,_⟩:=hrd.get hl
  exact ⟨_,_,_,rfl,rfl⟩
 ·split at h<;>cases h
  rename_i hl
  obtain ⟨A,c,xs,rfl,_,hrd,_⟩:=rd_sl.1 hr.1
  obtain ⟨b,o,rfl,_⟩:=hrd.get hl
  exact ⟨_,_,_,rfl,rfl⟩
 ·split at h<;>cases h
  rename_i hl
  rcases hr.2 with ⟨_,_,h3⟩|⟨_,h4,_⟩
  ·omega
  ·exact ⟨_,_,_,h4,rfl⟩
 ·split at h<;>cases h
  rename_i hl
  obtain ⟨_,A,c,h1,_,h2⟩:=hr
  obtain ⟨_,_,rfl⟩:=h2 hl
  exact ⟨_,_,_,h1,rfl⟩
theorem isSl_ok {P:Program} {t:TypeId} (h:isSl P t=true):∃ e,P.underlying t=some (.slice e):=by
 unfold isSl at h
 split at h
 ·exact ⟨_,by assumption⟩
 ·cases h
theorem run_nilq {P:Program} {t:TypeId} (h:isSl P t=true) (w:World) (A:Option Addr) (n c:Nat) :
  (binOp .eql t (.slice A n c) (.slice none 0 0)).run P w = .ok (.bool A.isNone) w∧(binOp .neq t (.slice A n c) (.slice none 0 0)).run P w = .ok (.bool (!A.isNone)) w:=by
 obtain ⟨e,he⟩:=isSl_ok h
 have h1:∀ d,(Op.equalIn (d+1) t (.slice A n c) (.slice none 0 0)).run P w = .ok A.isNone w:=by intro d;cases A<;>simp [Op.equalIn,run_underlying he]
 exact run_binOp_eq t w (by simp) (by simp) (h1 9999)
theorem binP_ok {P:Program} {N:Nat} {Γ:G} {s:S} {a:Act} {w:World} {op:BinOp} {t t':TypeId} {x z:Operand} {q:PV} {o:Oper} (ho:o.op = .binOp op t x z t') (h:binP P op t (s.ev x) (s.ev z)=some q) (hI:Inv N Γ s a w) :
  ∃ y,RP w Γ q y∧∀ w',Any w w' → (execOp a.eval o).run P w' = .ok (.value y) w':=by
 unfold binP at h
 split at h
 ·rename_i u v e1 e2
  obtain ⟨hx,hx'⟩:=S.ev_ok e1 hI
  obtain ⟨hz,hz'⟩:=S.ev_ok e2 hI
  split at h
  ·rename_i b1 b2
   split at h
   ·rename_i hsk
    cases h
    have hsk':skOf P t=some .bool:=by unfold skOf;rw [isBool_ok hsk]
    refine ⟨_,⟨rfl,rfl⟩,fun w' _=>?_⟩
    have h3:=run_eqE (P:=P) (w:=w') (w0:=w) (Γ:=Γ) (a:=.v (.bool b1)) (b:=.v (.bool b2)) 9999 hsk' rfl ⟨rfl,rfl⟩ ⟨rfl,rfl⟩
    simp [execOp,ho,hx,hz,guard_scalar,(run_binOp_eq t w' (by simp) (by simp) h3).1]
   ·cases h
  ·rename_i b1 b2
   split at h
   ·rename_i hsk
    cases h
    have hsk':skOf P t=some .bool:=by unfold skOf;rw [isBool_ok hsk]
    refine ⟨_,⟨rfl,rfl⟩,fun w' _=>?_⟩
    have h3:=run_eqE (P:=P) (w:=w') (w0:=w) (Γ:=Γ) (a:=.v (.bool b1)) (b:=.v (.bool b2)) 9999 hsk' rfl ⟨rfl,rfl⟩ ⟨rfl,rfl⟩
    simp [execOp,ho,hx,hz,guard_scalar,(run_binOp_eq t w' (by simp) (by simp) h3).2,bne]
   ·cases h
  ·rename_i A c
   split at h
   ·rename_i hsk
    cases h
    exact ⟨_,⟨rfl,rfl⟩,fun w' _=>by simp [execOp,ho,hx,hz,guard_scalar,(run_nilq hsk w' A 0 c).1]⟩
   ·cases h
  ·rename_i A c
   split at h
   ·rename_i hsk
    cases h
    exact ⟨_,⟨rfl,rfl⟩,fun w' _=>by simp [execOp,ho,hx,hz,guard_scalar,(run_nilq hsk w' A 0 c).2]⟩
   ·cases h
  ·rename_i a1 k1 b1
   split at h
   ·rename_i hb1
    subst hb1
    cases h
    exact ⟨_,⟨rfl,rfl⟩,fun w' _=>by simp [execOp,ho,hx,hz,guard_scalar,binOp,shift_shr .u64 k1 a1 1 (by decide) (by decide)]⟩
   ·cases h
  ·obtain ⟨r,hr,rfl⟩:=Option.map_eq_some_iff.1 h
   have h1:(∀ xs,u≠.agg xs)∧u≠.nilIface:=by cases u<;>simp [binV] at hr ⊢
   refine ⟨r,⟨rfl,?_⟩,fun w' _=>by simp [execOp,ho,hx,hz,guard_scalar,h1,run_binV t hr]⟩
   cases u<;>cases v<;>simp [binV] at hr
   ·obtain ⟨_,hr⟩:=hr
    unfold intOp at hr
    split at hr<;>first|(cases hr;done)|(cases hr;rfl)|(split at hr<;>first|(cases hr;done)|(cases hr;rfl))
   ·unfold strOp at hr
    split at hr<;>first|(cases hr;done)|(cases hr;rfl)|(split at hr<;>first|(cases hr;done)|(cases hr;rfl))
 ·rename_i cs ds e1 e2
  obtain ⟨xs,hx,hx'⟩:=S.ev_ok e1 hI
  obtain ⟨ys,hz,hz'⟩:=S.ev_ok e2 hI
  have key:∀ ks r,eqKinds P t=some ks → eqEs ks cs ds=some r → P.eqGuardType P.depth t=false∧∀ w':World,(Op.equalIn (9999+1) t (.agg xs.toArray) (.agg ys.toArray)).run P w' = .ok r w':=by
   intro ks r hk hr
   unfold eqKinds at hk
   split at hk
   ·rename_i fs hu
    split at hk
    ·rename_i hc
     obtain ⟨h1,h2⟩:=hc
     refine ⟨h2,fun w'=>?_⟩
     have hfo:P.fieldsOf t=fs:=by simp [Program.fieldsOf,hu]
     rw [run_equalIn_struct w' 9999 t xs.toArray ys.toArray (by rw [hfo];exact hu) h1,hfo]
     exact run_eqFields2 9997 (w0:=w) (Γ:=Γ) fs.toList ks 0 cs ds r hk (by simpa using hx') (by simpa using hz') hr
    ·cases hk
   ·cases hk
  split at h
  ·rename_i ks hk
   obtain ⟨r,hr,rfl⟩:=Option.map_eq_some_iff.1 h
   obtain ⟨hg,hrun⟩:=key ks r hk hr
   refine ⟨_,⟨rfl,rfl⟩,fun w' _=>?_⟩
   have hgd:(eqGuard .eql t x z (.agg xs.toArray) (.agg ys.toArray)).run P w' = .ok () w':=by simp [eqGuard,hg]
   simp [execOp,ho,hx,hz,hgd,(run_binOp_eq t w' (by simp) (by simp) (hrun w')).1]
  ·rename_i ks hk
   obtain ⟨r,hr,rfl⟩:=Option.map_eq_some_iff.1 h
   obtain ⟨hg,hrun⟩:=key ks r hk hr
   refine ⟨_,⟨rfl,rfl⟩,fun w' _=>?_⟩
   have hgd:(eqGuard .neq t x z (.agg xs.toArray) (.agg ys.toArray)).run P w' = .ok () w':=by simp [eqGuard,hg]
   simp [execOp,ho,hx,hz,hgd,(run_binOp_eq t w' (by simp) (by simp) (hrun w')).2]
  ·cases h
 ·rename_i e _ e1 e2
  have hx:=S.ev_ok e1 hI
  obtain ⟨hz,_⟩:=S.ev_ok e2 hI
  unfold nilQ at h
  split at h
  ·rename_i hsl
   split at h
   ·rename_i b hb
    cases h
    obtain ⟨A,n,c,hv,rfl⟩:=isNil_ok hb hx
    exact ⟨_,⟨rfl,rfl⟩,fun w' _=>by simp [execOp,ho,hv,hz,guard_scalar,(run_nilq hsl w' A n c).1]⟩
   ·rename_i b hb
    cases h
    obtain ⟨A,n,c,hv,rfl⟩:=isNil_ok hb hx
    exact ⟨_,⟨rfl,rfl⟩,fun w' _=>by simp [execOp,ho,hv,hz,guard_scalar,(run_nilq hsl w' A n c).2]⟩
   ·cases h
  ·cases h
 ·cases h
end Go.Proofs.YthhfpcbpiphfiaaGreatDoor
