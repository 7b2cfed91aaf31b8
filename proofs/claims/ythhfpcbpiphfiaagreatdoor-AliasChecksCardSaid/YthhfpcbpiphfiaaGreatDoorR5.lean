/- What the program computes, and the plain laws of it, part 5. -/
import Derived.Great.BuildSlice
import Derived.Test.YthhfpcbpiphfiaaGreatDoorR4
namespace Go.Proofs.YthhfpcbpiphfiaaGreatDoor
open Go.RowKit
open IntWalk renaming iteOmega → iO, toNatUp → tN
set_option linter.unusedVariables false
set_option linter.unusedSimpArgs false
def cellsE:Option PV → Option (List E)
 | some (.c e)=>some [e]
 | some (.agg cs)=>some cs
 | _=>none
def toD:E → Option D
 | .v x=>some (.v x)
 | .sl sz l=>some (.sl sz l)
 | .full sz l=>some (.sl sz l)
 | .fn f [] []=>some (.v (.func f #[] #[]))
 | _=>none
def toDs:List E → Option (List D)
 | []=>some []
 | e :: r=>match toD e,toDs r with
  | some d,some ds=>some (d :: ds)
  | _,_=>none
theorem cellsE_ok {w:World} {Γ:G} {q:PV} {y:Value} {cs:List E} (h:cellsE (some q)=some cs) (hq:RP w Γ q y):All2 (RE w Γ) cs y.cells.toList:=by
 cases q with
 | c e =>
  simp only [cellsE,Option.some.injEq] at h
  subst h
  rw [one_cells (RE.one hq)]
  exact ⟨hq,trivial⟩
 | agg cs' =>
  simp only [cellsE,Option.some.injEq] at h
  subst h
  obtain ⟨xs,rfl,hx⟩:=hq
  simpa [Value.cells] using hx
 | undef=>simp [cellsE] at h
 | two a b=>simp [cellsE] at h
 | three a b c=>simp [cellsE] at h
theorem toD_ok {w:World} {Γ:G} {e:E} {y:Value} {d:D} (h:toD e=some d) (hr:RE w Γ e y):RD w Γ.I d y:=by
 unfold toD at h
 split at h
 ·cases h;rw [RD];exact hr
 ·cases h;exact hr
 ·cases h;exact hr.1
 ·cases h
  obtain ⟨xs,hy,hx,_⟩:=hr
  have h2:=hx rfl
  rw [All2.nil_l] at h2
  subst h2
  rw [RD]
  exact ⟨hy,rfl⟩
 ·cases h
theorem toDs_ok {w:World} {Γ:G}:∀ {cs:List E} {ys:List Value} {ds:List D},toDs cs=some ds → All2 (RE w Γ) cs ys → All2 (RD w Γ.I) ds ys∧ds.length=cs.length
 | [],ys,ds,h,hr=>by
  simp only [toDs,Option.some.injEq] at h
  subst h
  rw [All2.nil_l] at hr
  subst hr
  exact ⟨trivial,rfl⟩
 | e :: cs,ys,ds,h,hr=>by
  simp only [toDs] at h
  split at h
  ·rename_i d ds' h1 h2
   cases h
   obtain ⟨y,m,rfl,h3,h4⟩:=All2.cons_l.1 hr
   obtain ⟨h5,h6⟩:=toDs_ok h2 h4
   exact ⟨⟨toD_ok h1 h3,h5⟩,by simp [h6]⟩
  ·cases h
theorem re_one {w:World} {Γ:G}:∀ {cs:List E} {ys:List Value},All2 (RE w Γ) cs ys → ∀ v ∈ ys,v.oneCell'=true
 | [],ys,h,v,hv=>by rw [All2.nil_l] at h;subst h;simp at hv
 | e :: cs,y :: ys,h,v,hv=>by
  simp only [List.mem_cons] at hv
  rcases hv with rfl|hv
  ·exact RE.one h.1
  ·exact re_one h.2 v hv
 | _ :: _,[],h,_,_=>h.elim
theorem rd_one {w:World} {I:Nat → Prop}:∀ {cs:List D} {ys:List Value},All2 (RD w I) cs ys → ∀ v ∈ ys,v.oneCell'=true
 | [],ys,h,v,hv=>by rw [All2.nil_l] at h;subst h;simp at hv
 | e :: cs,y :: ys,h,v,hv=>by
  simp only [List.mem_cons] at hv
  rcases hv with rfl|hv
  ·exact RD.one h.1
  ·exact rd_one h.2 v hv
 | _ :: _,[],h,_,_=>h.elim
def boxP (os:List Ob) (t:TypeId) (cs:Option (List E)):Option (PV × List Ob):=cs.map fun cs=>(.c (.ptr os.length 0),os++[.box t cs])
def HeapOk (P:Program) (N p:Nat) (Γ:G) (s:S) (a:Act) (w:World) (o:Oper) (q:PV) (os:List Ob):Prop :=
 ∃ y w' Γ',((execOp a.eval o).run P w = .ok (.value y) w'∨((execOp a.eval o).run P w = .ok .skip w'∧y=Go.undef))∧RP w' Γ' q y∧Inv N Γ' ⟨s.t,os⟩ a w'∧Grow p Γ w Γ' w'
theorem newBox {P:Program} {N p:Nat} {Γ:G} {s:S} {a:Act} {w:World} {o:Oper} (t:TypeId) (cs:List E) (xs:List Value) (hI:Inv N Γ s a w) (hp:p≤Γ.n) (hx:All2 (RE w Γ) cs xs)
  (hrun:(execOp a.eval o).run P w = .ok (.value (.pointer (some ⟨w.heap.size,0,none⟩))) (w.alloc (.cells xs.toArray t))):HeapOk P N p Γ s a w o (.c (.ptr s.o.length 0)) (s.o++[.box t cs]):=by
 have hE:Ext No w (w.alloc (.cells xs.toArray t)):=(Ext.refl No w).alloc _
 have hS:=Same.of_ext hE
 have hag:=push_agree Γ w.heap.size 1
 have hn:=hI.m.n
 have hm:MemOk (Γ.push w.heap.size 1) (s.o++[.box t cs]) (w.alloc (.cells xs.toArray t)):=by
  refine hI.m.push hS _ _ _ ⟨by simp [G.push,upd_same],xs,?_,?_,.inr (by simp [G.push,upd_same])⟩ (fun _=>Nat.le_refl _)
  ·simp only [G.push,upd_same];exact Blk.new w t xs.toArray
  ·exact re_stay hx (hS.stay Γ.I) fun k hk=>hag k (re_lt hx k hk)
 exact ⟨_,_,Γ.push w.heap.size 1,.inl hrun,⟨by simp [G.push,hn],by simp [G.push,← hn,upd_same]⟩,hI.heap hm (hS.stay Γ.I) hag,grow_push hI.m hE _ _ (fun _=>Nat.le_refl _) hp⟩
theorem alloc_ok {P:Program} {N p:Nat} {Γ:G} {s:S} {a:Act} {w:World} {o:Oper} {t:TypeId} {q:PV} {os:List Ob} (ho:o.op = .alloc t) (h:boxP s.o t (zerOf P t)=some (q,os)) (hI:Inv N Γ s a w) (hp:p≤Γ.n):HeapOk P N p Γ s a w o q os:=by
 obtain ⟨z,hz,he⟩:=Option.map_eq_some_iff.1 h
 cases he
 obtain ⟨i,v,hi,hv,hzr⟩:=zer_ok hz
 refine newBox t z v.cells.toList hI hp (hzr w Γ) ?_
 simp [execOp,ho,Instr.alloc,zeroValue,typeInfo,hi,hv,newVar,newRow]
theorem box_ok {P:Program} {N p:Nat} {Γ:G} {s:S} {a:Act} {w:World} {o:Oper} {t:TypeId} {x:Operand} {q:PV} {os:List Ob} (ho:o.op = .box t x) (h:boxP s.o t (cellsE (s.ev x))=some (q,os)) (hI:Inv N Γ s a w) (hp:p≤Γ.n):HeapOk P N p Γ s a w o q os:=by
 obtain ⟨z,hz,he⟩:=Option.map_eq_some_iff.1 h
 cases he
 cases hev:s.ev x with
 | none=>rw [hev] at hz;simp [cellsE] at hz
 | some u =>
  rw [hev] at hz
  refine newBox t z (a.eval x).cells.toList hI hp (cellsE_ok hz (S.ev_ok hev hI)) ?_
  simp [execOp,ho,Instr.box,newVar,newRow]
theorem take_splice (l d:List Value) (m a:Nat) (h1:m≤l.length) (h2:a+d.length≤m):(l.take m).take a++(d++(l.take m).drop (a+d.length))=(l.take a++(d++l.drop (a+d.length))).take m:=by
 obtain ⟨c1,c2,rfl,h3⟩:∃ c1 c2,l=c1++c2∧c1.length=m:=⟨l.take m,l.drop m,(List.take_append_drop m l).symm,by rw [List.length_take];omega⟩
 have e1:(c1++c2).take a=c1.take a:=List.take_append_of_le_length (by omega)
 have e2:(c1++c2).drop (a+d.length)=c1.drop (a+d.length)++c2:=List.drop_append_of_le_length (by omega)
 rw [List.take_left' h3,e1,e2]
 have:c1.take a++(d++(c1.drop (a+d.length)++c2))=(c1.take a++(d++c1.drop (a+d.length)))++c2:=by simp [List.append_assoc]
 rw [this,List.take_left']
 simp only [List.length_append,List.length_take,List.length_drop]
 omega
def setO (os:List Ob) (k:Nat) (o:Ob):List Ob:=os.set k o
def storeP (P:Program) (os:List Ob) (t:TypeId):Option PV → Option (List E) → Option (PV × List Ob)
 | some (.c (.ptr k off)),some ds=>match szOf P t,os[k]? with
  | some n,some (.box ty cs)=>if ds.length=n∧off+n≤cs.length then some (.undef,setO os k (.box ty (cs.take off++(ds++cs.drop (off+n))))) else none
  | _,_=>none
 | some (.c (.orow k sz i f)),some ds=>match szOf P t,os[k]?,toDs ds with
  | some n,some (.arr el sz' rows),some rs=>if sz'=sz∧i < rows.length∧ds.length=n∧f+n≤sz then some (.undef,setO os k (.arr el sz' (rows.set i ((rows.getD i []).take f++(rs++(rows.getD i []).drop (f+n)))))) else none
  | some n,some (.box ty cs),_=>if ds.length=n∧i * sz+f+n≤cs.length then some (.undef,setO os k (.box ty (cs.take (i * sz+f)++(ds++cs.drop (i * sz+f+n))))) else none
  | _,_,_=>none
 | _,_=>none
theorem run_storeVar {P:Program} {w:World} {t:TypeId} {g off n:Nat} {el:TypeId} {cur:Array Value} {v:Value} (hn:szOf P t=some n) (hv:v.cells.size=n) (hb:Blk w g el cur) (hfit:off+n≤cur.size) (h1:∀ x ∈ v.cells.toList,x.oneCell'=true) :
  ∃ w',(storeVar t ⟨g,off,none⟩ v).run P w = .ok () w'∧Blk w' g el (cur.toList.take off++(v.cells.toList++cur.toList.drop (off+n))).toArray∧Ext (· = g) w w':=by
 have hst:=run_storeCells_at P g off el v.cells.toList 0 cur w hb (by simpa [hv] using hfit) h1
 simp only [Nat.add_zero] at hst
 refine ⟨w.setRow g (cur.toList.take off++(v.cells.toList++cur.toList.drop (off+n))).toArray,?_,setRow_heap w g _ _ el _ hb,⟨rfl,rfl,rfl,by simp [World.setRow],fun q _ hS=>setRow_other w g q _ hS⟩⟩
 rw [storeVar]
 simp only [Sem.run_bind,sz_run hn,Result.andThen_ok,hv]
 rw [if_neg (by simp)]
 rw [hst]
 simp [hv,Array.length_toList,List.append_assoc]
theorem store_box {P:Program} {N p:Nat} {Γ:G} {s:S} {a:Act} {w:World} {o:Oper} {t:TypeId} {ad x:Operand} {k off n:Nat} {ty:TypeId} {cs ds:List E} (ho:o.op = .store t ad x) (hI:Inv N Γ s a w) (hk:k < Γ.n) (he:a.eval ad = .pointer (some ⟨Γ.β k,off,none⟩))
  (hd:All2 (RE w Γ) ds (a.eval x).cells.toList) (hn:szOf P t=some n) (hob:s.o[k]? = some (.box ty cs)) (hc1:ds.length=n) (hc2:off+n≤cs.length):HeapOk P N p Γ s a w o .undef (setO s.o k (.box ty (cs.take off++(ds++cs.drop (off+n))))):=by
 obtain ⟨h0,xs,hb,hx,hroom⟩:=hI.m.ob k _ hob
 have hroom':Room Γ k (xs.toArray.toList.take off++((a.eval x).cells.toList++xs.toArray.toList.drop (off+n))):=by
  have hv:(a.eval x).cells.toList.length=n:=by rw [← hc1,hd.length]
  have hxl:=hx.length
  unfold Room at hroom ⊢
  rcases hroom with h|h
  ·left
   simp only [List.length_append,List.length_take,List.length_drop]
   rw [hv]
   omega
  ·exact .inr h
 have hv:(a.eval x).cells.size=n:=by rw [← hc1,hd.length,Array.length_toList]
 obtain ⟨w',h3,h4,h5⟩:=run_storeVar (P:=P) (t:=t) (off:=off) hn hv hb (by simpa [← hx.length] using hc2) (re_one hd)
 have hs':Stay w Γ.I w' Γ.I:=⟨h5.size,fun b hb' hl=>h5.block b hl fun e=>hI.m.off k hk h0 (e ▸ hb'),fun _ h=>h⟩
 have hro:RO w' Γ k (.box ty (cs.take off++(ds++cs.drop (off+n)))):=by
  refine ⟨h0,_,h4,?_,by simpa using hroom'⟩
  have:=((hx.take off).append (hd.append (hx.drop (off+n))))
  exact re_stay (by simpa using this) hs' fun j hj=>⟨re_lt this j (by simpa using hj),rfl,rfl⟩
 obtain ⟨hm,hs⟩:=hI.m.set_ hk h0 h5 _ hro
 refine ⟨_,w',Γ,.inr ⟨?_,rfl⟩,rfl,hI.heap hm hs (fun j hj=>⟨hj,rfl,rfl⟩),grow_set hk h0 h5⟩
 simp [execOp,ho,Instr.storeAt,Instr.sureAddr,he,h3]
theorem store_ok {P:Program} {N p:Nat} {Γ:G} {s:S} {a:Act} {w:World} {o:Oper} {t:TypeId} {ad x:Operand} {q:PV} {os:List Ob} (ho:o.op = .store t ad x) (h:storeP P s.o t (s.ev ad) (cellsE (s.ev x))=some (q,os)) (hI:Inv N Γ s a w):HeapOk P N p Γ s a w o q os:=by
 cases hev:s.ev x with
 | none=>rw [hev] at h;simp [storeP,cellsE] at h
 | some u =>
  have hu:=S.ev_ok hev hI
  rw [hev] at h
  unfold storeP at h
  split at h
  ·rename_i k off ds e1 e2
   obtain ⟨hk,he⟩:=S.ev_ok e1 hI
   have hd:=cellsE_ok e2 hu
   split at h
   ·rename_i n ty cs hn hob
    split at h
    ·rename_i hc
     obtain ⟨hc1,hc2⟩:=hc
     cases h
     exact store_box ho hI hk he hd hn hob hc1 hc2
    ·cases h
   ·cases h
  ·rename_i k sz i f ds e1 e2
   obtain ⟨hk,he⟩:=S.ev_ok e1 hI
   have hd:=cellsE_ok e2 hu
   split at h
   ·rename_i n el sz' rows rs hn hob hrs
    split at h
    ·rename_i hc
     obtain ⟨rfl,hi,hc1,hc2⟩:=hc
     cases h
     obtain ⟨g1,g2,g3,g4⟩:=hI.m.ob k _ hob
     obtain ⟨hrd,hrl⟩:=toDs_ok hrs hd
     have h0:0 < Γ.cap k:=by
      rcases Nat.eq_zero_or_pos (Γ.cap k) with h4|h4
      ·rw [g3 h4] at hi;simp at hi
      ·exact h4
     obtain ⟨cur,hb,g5,g6,g7,g8⟩:=g4 h0
     have hv:(a.eval x).cells.size=n:=by rw [← hc1,hd.length,Array.length_toList]
     have hfit:i * sz'+f+n≤cur.size:=by
      rw [g5]
      have:(i+1) * sz'≤Γ.cap k * sz':=Nat.mul_le_mul_right _ (by omega)
      rw [Nat.add_mul] at this
      omega
     obtain ⟨w',h3,h4,h5⟩:=run_storeVar (P:=P) (t:=t) (off:=i * sz'+f) hn hv hb hfit (re_one hd)
     have hs':Stay w Γ.I w' Γ.I:=⟨h5.size,fun b hb' hl=>h5.block b hl fun e=>hI.m.off k hk h0 (e ▸ hb'),fun _ h=>h⟩
     have hrl':((rows.getD i []).take f++(rs++(rows.getD i []).drop (f+n))).length=sz':=by
      have:(rows.getD i []).length=sz':=by
       rw [List.getD_eq_getElem?_getD,List.getElem?_eq_getElem hi]
       exact g1 _ (List.getElem_mem _)
      simp only [List.length_append,List.length_take,List.length_drop,this]
      omega
     have key:∀ (l:List (List D)) (m:List Value) (i:Nat),(∀ r ∈ l,r.length=sz') → i < l.length → All2 (RD w Γ.I) l.flatten m →
       All2 (RD w Γ.I) (l.set i ((l.getD i []).take f++(rs++(l.getD i []).drop (f+n)))).flatten (m.take (i * sz'+f)++((a.eval x).cells.toList++m.drop (i * sz'+f+n))):=by
      intro l
      induction l with
      | nil=>intro m i _ hi;simp at hi
      | cons r l ih =>
       intro m i hr hi hm
       simp only [List.flatten_cons] at hm
       obtain ⟨x1,x2,rfl,hx1,hx2⟩:=hm.split
       have hl1:x1.length=sz':=by rw [← hx1.length];exact hr r (by simp)
       cases i with
       | zero =>
        simp only [Nat.zero_mul,Nat.zero_add,List.set_cons_zero,List.flatten_cons]
        rw [List.take_append_of_le_length (by omega),List.drop_append_of_le_length (by omega)]
        have:=((hx1.take f).append (hrd.append (hx1.drop (f+n)))).append hx2
        simpa [List.append_assoc] using this
       | succ i =>
        have:=ih x2 i (fun r hr'=>hr r (by simp [hr'])) (by simpa using hi) hx2
        have e1:(i+1) * sz'+f=x1.length+(i * sz'+f):=by rw [hl1,Nat.add_mul];omega
        have e2:(i+1) * sz'+f+n=x1.length+(i * sz'+f+n):=by rw [hl1,Nat.add_mul];omega
        rw [e2,e1,List.take_length_add_append,List.drop_length_add_append]
        simp only [List.set_cons_succ,List.flatten_cons,List.append_assoc]
        simpa using hx1.append this
     have hro:RO w' Γ k (.arr el sz' (rows.set i ((rows.getD i []).take f++(rs++(rows.getD i []).drop (f+n))))):=by
      refine ⟨fun r hr=>?_,g2,fun h=>absurd h (by omega),fun _=>⟨_,h4,?_,by simpa using g6,g7,?_⟩⟩
      ·rcases List.mem_or_eq_of_mem_set hr with hr|rfl
       ·exact g1 r hr
       ·exact hrl'
      ·have e1:(a.eval x).cells.toList.length=n:=by rw [Array.length_toList];exact hv
       simp only [List.size_toArray,List.length_append,List.length_take,List.length_drop,Array.length_toList,e1]
       omega
      ·have hk2:=key rows (cur.toList.take (rows.length * sz')) i g1 hi g8
       have hle:(i+1) * sz'≤rows.length * sz':=Nat.mul_le_mul_right _ (by omega)
       rw [Nat.add_mul] at hle
       have e1:(a.eval x).cells.toList.length=n:=by rw [Array.length_toList];exact hv
       have e3:(cur.toList.take (rows.length * sz')).take (i * sz'+f)++((a.eval x).cells.toList++(cur.toList.take (rows.length * sz')).drop (i * sz'+f+n)) =
         (cur.toList.take (i * sz'+f)++((a.eval x).cells.toList++cur.toList.drop (i * sz'+f+n))).take (rows.length * sz'):=by
        have hle2:rows.length * sz'≤Γ.cap k * sz':=Nat.mul_le_mul_right _ g6
        have:=take_splice cur.toList (a.eval x).cells.toList (rows.length * sz') (i * sz'+f) (by have e0:cur.toList.length=cur.size:=Array.length_toList;omega) (by omega)
        rw [e1] at this
        exact this
       rw [e3] at hk2
       rw [List.length_set]
       exact hk2.mono fun _ _=>RD.stay hs' _ _
     obtain ⟨hm,hs⟩:=hI.m.set_ hk h0 h5 _ hro
     refine ⟨_,w',Γ,.inr ⟨?_,rfl⟩,rfl,hI.heap hm hs (fun j hj=>⟨hj,rfl,rfl⟩),grow_set hk h0 h5⟩
     simp [execOp,ho,Instr.storeAt,Instr.sureAddr,he,h3]
    ·cases h
   ·rename_i n ty cs hn hob
    split at h
    ·rename_i hc
     cases h
     exact store_box ho hI hk he hd hn hob hc.1 hc.2
    ·cases h
   ·cases h
  ·cases h
def mkmapP (P:Program) (os:List Ob) (t:TypeId):Option (PV × List Ob):=match mpOf P t with
 | some (kk,e)=>match aggOf P e with
  | some ag=>some (.c (.mp os.length),os++[.map kk ag []])
  | none=>none
 | none=>none
theorem mkmap_ok {P:Program} {N p:Nat} {Γ:G} {s:S} {a:Act} {w:World} {o:Oper} {t:TypeId} {q:PV} {os:List Ob} (ho:o.op = .makeMap t none) (h:mkmapP P s.o t=some (q,os)) (hI:Inv N Γ s a w) (hp:p≤Γ.n):HeapOk P N p Γ s a w o q os:=by
 unfold mkmapP at h
 split at h
 ·rename_i kk e hmp
  split at h
  ·rename_i ag hag
   cases h
   have hE:Ext No w (w.alloc (.map #[] 0)):=(Ext.refl No w).alloc _
   have hS:=Same.of_ext hE
   have hagr:=push_agree Γ w.heap.size 1
   have hn:=hI.m.n
   have hm:MemOk (Γ.push w.heap.size 1) (s.o++[.map kk ag []]) (w.alloc (.map #[] 0)):=by
    refine hI.m.push hS _ _ _ ⟨by simp [G.push,upd_same],#[],0,?_,?_⟩ (fun _=>Nat.le_refl _)
    ·simp only [G.push,upd_same];exact (MapKept.heap_alloc w _).1
    ·exact ⟨trivial,by simp,by simp,by simp,by simp⟩
   refine ⟨.map (some w.heap.size),w.alloc (.map #[] 0),Γ.push w.heap.size 1,.inl ?_,⟨by simp [G.push,hn],by simp [G.push,← hn,upd_same]⟩,hI.heap hm (hS.stay Γ.I) hagr,grow_push hI.m hE _ _ (fun _=>Nat.le_refl _) hp⟩
   simp [execOp,ho,Instr.makeMap]
  ·cases h
 ·cases h
theorem list_set_self {α:Type} {l:List α} {j:Nat} {x:α} (h:l[j]? = some x):l.set j x=l:=by
 obtain ⟨hj,rfl⟩:=List.getElem?_eq_some_iff.1 h
 exact List.set_getElem_self hj
def rowOf:Bool → Option PV → Option (List D)
 | false,some (.c e)=>(toD e).map fun d=>[d]
 | true,some (.agg cs)=>toDs cs
 | _,_=>none
def updP (P:Program) (os:List Ob) (t:TypeId):Option PV → Option PV → Option PV → Option (PV × List Ob)
 | some (.c (.mp k)),ix,x=>match keyP ix,mpOf P t,os[k]? with
  | some key,some (kk,e),some (.map kk' ag es)=>match rowOf ag x with
   | some row=>if key.kind=kk∧kk'=kk then some (.undef,setO os k (.map kk' ag (mput es key row))) else none
   | none=>none
  | _,_,_=>none
 | _,_,_=>none
theorem rowOf_ok {w:World} {Γ:G} {ag:Bool} {x:Option PV} {row:List D} {v:Value} (h:rowOf ag x=some row) (hx:∀ q,x=some q → RP w Γ q v):RV w Γ.I ag row v:=by
 unfold rowOf at h
 split at h
 ·rename_i e
  obtain ⟨d,h1,rfl⟩:=Option.map_eq_some_iff.1 h
  exact ⟨[v],⟨toD_ok h1 (hx _ rfl),trivial⟩,rfl⟩
 ·rename_i cs
  obtain ⟨xs,rfl,h2⟩:=hx _ rfl
  exact ⟨xs,(toDs_ok h h2).1,rfl⟩
 ·cases h
theorem ext_setObj {w:World} {r:Nat} {o o':Obj} (hb:w.heap[r]? = some o):Ext (· = r) w { w with heap:=w.heap.setIfInBounds r o' } :=
 ⟨rfl,rfl,rfl,by simp,fun q _ hS=>(MapKept.heap_set hb).2 q hS⟩
theorem upd_ok {P:Program} {N p:Nat} {Γ:G} {s:S} {a:Act} {w:World} {o:Oper} {t:TypeId} {m ix x:Operand} {q:PV} {os:List Ob} (ho:o.op = .mapUpdate t m ix x) (h:updP P s.o t (s.ev m) (s.ev ix) (s.ev x)=some (q,os)) (hI:Inv N Γ s a w):HeapOk P N p Γ s a w o q os:=by
 unfold updP at h
 split at h
 ·rename_i k e1
  obtain ⟨hk,hx⟩:=S.ev_ok e1 hI
  split at h
  ·rename_i key kk e kk' ag es hkey hmp hob
   have hi:=keyP_ok hkey hI
   obtain ⟨kt,hu,hku⟩:=mp_run hmp
   split at h
   ·rename_i row hrow
    have hrv:=rowOf_ok hrow (fun q hq=>S.ev_ok hq hI)
    split at h
    ·rename_i hc
     obtain ⟨hc1,rfl⟩:=hc
     cases h
     obtain ⟨h0,ms,ck,hb,hM⟩:=hI.m.ob k _ hob
     have fin:∀ (ms':Array MapEntry) (ck':Nat),(∀ w' I',Stay w Γ.I w' I' → RM w' I' kk' ag (mput es key row) ms'.toList ck') → (Instr.mapUpdate t (a.eval m) (a.eval ix) (a.eval x)).run P w = .ok () { w with heap:=w.heap.setIfInBounds (Γ.β k) (.map ms' ck') } →
       HeapOk P N p Γ s a w o .undef (setO s.o k (.map kk' ag (mput es key row))):=by
      intro ms' ck' hR hrun
      have hE:Ext (· = Γ.β k) w { w with heap:=w.heap.setIfInBounds (Γ.β k) (.map ms' ck') }:=ext_setObj hb
      have hs':Stay w Γ.I { w with heap:=w.heap.setIfInBounds (Γ.β k) (.map ms' ck') } Γ.I:=⟨hE.size,fun b hb' hl=>hE.block b hl fun e=>hI.m.off k hk h0 (e ▸ hb'),fun _ h=>h⟩
      obtain ⟨hm,hs⟩:=hI.m.set_ hk h0 hE (.map kk' ag (mput es key row)) ⟨h0,ms',ck',(MapKept.heap_set hb).1,hR _ _ hs'⟩
      refine ⟨_,_,Γ,.inr ⟨?_,rfl⟩,rfl,hI.heap hm hs (fun j hj=>⟨hj,rfl,rfl⟩),grow_set hk h0 hE⟩
      simp only [execOp,ho,Sem.run_bind,hrun,Result.andThen_ok,Sem.run_pure]
     rcases find_ok hku.2 hc1 es ms.toList 0 hM.rows hM.kind with ⟨g1,g2,g3,g4⟩|⟨j,e0,m0,g1,g2,g3,g3',g5,g6,g7,g8⟩
     ·refine fin (ms.push { key:=key.v,val:=a.eval x,born:=ck }) (ck+1) (fun w' I' hs=>?_) ?_
      ·rw [g2,Array.toList_push]
       refine ⟨(hM.stay hs).rows.append ⟨⟨rfl,hrv.stay fun d _ y hy=>RD.stay hs d y hy⟩,trivial⟩,fun e he=>?_,?_,?_,fun b hb=>?_⟩
       ·rcases List.mem_append.1 he with he|he
        ·exact hM.kind e he
        ·simp at he;subst he;exact hc1
       ·rw [List.map_append,List.nodup_append]
        refine ⟨hM.nodup,by simp,?_⟩
        intro a ha b hb
        simp at hb
        subst hb
        intro hab
        exact g3 (hab ▸ ha)
       ·rw [List.map_append,List.pairwise_append]
        refine ⟨hM.born,by simp,fun a ha b hb=>?_⟩
        simp at hb
        subst hb
        exact hM.clock a ha
       ·rw [List.map_append] at hb
        rcases List.mem_append.1 hb with hb|hb
        ·exact Nat.lt_succ_of_lt (hM.clock b hb)
        ·simp at hb;subst hb;exact Nat.lt_succ_self _
      ·simp [Instr.mapUpdate,run_underlying hu,hx,MapKept.run_getObj_map hb,hi,MapKept.run_checkKey hku.1 (mk_isKey hku.2 hc1),MapKept.run_findKey hku.1 g4,MapKept.run_setObj_map _ hb]
     ·have hj:ms[j]? = some m0:=by simpa using g2
      refine fin (ms.modify j fun e=>{ e with key:=key.v,val:=a.eval x }) ck (fun w' I' hs=>?_) ?_
      ·have hml:(ms.modify j fun e=>{ e with key:=key.v,val:=a.eval x }).toList=ms.toList.set j { m0 with key:=key.v,val:=a.eval x }:=by
        rw [Array.toList_modify]
        have hj':j < ms.toList.length:=(List.getElem?_eq_some_iff.1 g2).1
        have:ms.toList[j]=m0:=(List.getElem?_eq_some_iff.1 g2).2
        rw [List.modify_eq_set,g2]
        rfl
       have hbs:(ms.toList.set j { m0 with key:=key.v,val:=a.eval x }).map MapEntry.born=ms.toList.map MapEntry.born:=by
        rw [List.map_set]
        exact list_set_self (by rw [List.getElem?_map,g2];rfl)
       rw [hml,g6]
       refine ⟨(hM.stay hs).rows.set_ j ⟨rfl,hrv.stay fun d _ y hy=>RD.stay hs d y hy⟩,fun e he=>?_,?_,by rw [hbs];exact hM.born,by rw [hbs];exact hM.clock⟩
       ·rcases List.mem_or_eq_of_mem_set he with he|rfl
        ·exact hM.kind e he
        ·exact hc1
       ·rw [List.map_set,list_set_self (by rw [List.getElem?_map,g1,← g3];rfl)]
        exact hM.nodup
      ·simp [Instr.mapUpdate,run_underlying hu,hx,MapKept.run_getObj_map hb,hi,MapKept.run_checkKey hku.1 (mk_isKey hku.2 hc1),MapKept.run_findKey hku.1 g8,hj,g3',MapKept.run_keyThatStays (mk_isKey hku.2 hc1),MapKept.run_setObj_map _ hb]
    ·cases h
   ·cases h
  ·cases h
 ·cases h
theorem len_mkmap {P:Program} {os os':List Ob} {t:TypeId} {q:PV} (h:mkmapP P os t=some (q,os')):os.length≤os'.length:=by
 unfold mkmapP at h
 split at h
 ·split at h<;>cases h
  simp
 ·cases h
theorem len_upd {P:Program} {os os':List Ob} {t:TypeId} {m ix x:Option PV} {q:PV} (h:updP P os t m ix x=some (q,os')):os.length≤os'.length:=by
 unfold updP at h
 split at h
 ·split at h
  ·split at h
   ·split at h<;>cases h
    simp [setO]
   ·cases h
  ·cases h
 ·cases h
def mdel:List (MK × List D) → MK → List (MK × List D)
 | [],_=>[]
 | (a,x) :: l,k=>if a=k then l else (a,x) :: mdel l k
theorem mdel_none {key:MK}:∀ {es:List (MK × List D)},key ∉ es.map (·.1) → mdel es key=es
 | [],_=>rfl
 | (a,x) :: l,h=>by
  simp only [List.map_cons,List.mem_cons,not_or] at h
  rw [mdel,if_neg (fun e=>h.1 e.symm),mdel_none h.2]
theorem mdel_at {key:MK}:∀ {es:List (MK × List D)} {j:Nat} {e:MK × List D},es[j]? = some e → e.1=key → (es.map (·.1)).Nodup → mdel es key=es.eraseIdx j
 | [],j,e,h,_,_=>by simp at h
 | (a,x) :: l,0,e,h,hk,_=>by
  simp only [List.getElem?_cons_zero,Option.some.injEq] at h
  subst h
  simp only at hk
  rw [mdel,if_pos hk]
  rfl
 | (a,x) :: l,j+1,e,h,hk,hn=>by
  simp only [List.getElem?_cons_succ] at h
  rw [List.map_cons,List.nodup_cons] at hn
  have hm:key ∈ l.map (·.1):=List.mem_map.2 ⟨e,List.mem_of_getElem? h,hk⟩
  rw [mdel,if_neg (fun e=>hn.1 (by rw [e];exact hm)),mdel_at h hk hn.2]
  rfl
def delP (P:Program) (os:List Ob) (t:TypeId):Option PV → Option PV → Option (PV × List Ob)
 | some (.c (.mp k)),ix=>match keyP ix,mpOf P t,os[k]? with
  | some key,some (kk,e),some (.map kk' ag es)=>if key.kind=kk∧kk'=kk then some (.undef,setO os k (.map kk' ag (mdel es key))) else none
  | _,_,_=>none
 | _,_=>none
theorem all2_erase {α β:Type} {R:α → β → Prop}:∀ (j:Nat) {l:List α} {m:List β},All2 R l m → All2 R (l.eraseIdx j) (m.eraseIdx j)
 | j,[],m,h=>by
  rw [All2.nil_l] at h
  subst h
  cases j<;>exact trivial
 | 0,a :: l,m,h=>by
  obtain ⟨b,m',rfl,h1,h2⟩:=All2.cons_l.1 h
  exact h2
 | j+1,a :: l,m,h=>by
  obtain ⟨b,m',rfl,h1,h2⟩:=All2.cons_l.1 h
  exact ⟨h1,all2_erase j h2⟩
theorem del_ok {P:Program} {N p:Nat} {Γ:G} {s:S} {a:Act} {w:World} {o:Oper} {t t':TypeId} {m ix:Operand} {q:PV} {os:List Ob} (ho:o.op = .call { callee:=.builtin .delete,args := #[m,ix],argTypes := #[t,t'] }) (h:delP P s.o t (s.ev m) (s.ev ix)=some (q,os)) (hI:Inv N Γ s a w):HeapOk P N p Γ s a w o q os:=by
 unfold delP at h
 split at h
 ·rename_i k e1
  obtain ⟨hk,hx⟩:=S.ev_ok e1 hI
  split at h
  ·rename_i key kk e kk' ag es hkey hmp hob
   have hi:=keyP_ok hkey hI
   obtain ⟨kt,hu,hku⟩:=mp_run hmp
   split at h
   ·rename_i hc
    obtain ⟨hc1,rfl⟩:=hc
    cases h
    obtain ⟨h0,ms,ck,hb,hM⟩:=hI.m.ob k _ hob
    have fin:∀ (ms':Array MapEntry) (ck':Nat),(∀ w' I',Stay w Γ.I w' I' → RM w' I' kk' ag (mdel es key) ms'.toList ck') → (Builtin.delete_ #[t,t'] o.type #[a.eval m,a.eval ix]).run P w = .ok (.tuple #[]) { w with heap:=w.heap.setIfInBounds (Γ.β k) (.map ms' ck') } →
      HeapOk P N p Γ s a w o .undef (setO s.o k (.map kk' ag (mdel es key))):=by
     intro ms' ck' hR hrun
     have hE:Ext (· = Γ.β k) w { w with heap:=w.heap.setIfInBounds (Γ.β k) (.map ms' ck') }:=ext_setObj hb
     have hs':Stay w Γ.I { w with heap:=w.heap.setIfInBounds (Γ.β k) (.map ms' ck') } Γ.I:=⟨hE.size,fun b hb' hl=>hE.block b hl fun e=>hI.m.off k hk h0 (e ▸ hb'),fun _ h=>h⟩
     obtain ⟨hm,hs⟩:=hI.m.set_ hk h0 hE (.map kk' ag (mdel es key)) ⟨h0,ms',ck',(MapKept.heap_set hb).1,hR _ _ hs'⟩
     refine ⟨.tuple #[],_,Γ,.inl ?_,rfl,hI.heap hm hs (fun j hj=>⟨hj,rfl,rfl⟩),grow_set hk h0 hE⟩
     simp only [execOp,ho,resolve,invoke,builtin,Sem.run_bind,Sem.run_pure,Result.andThen_ok,List.map_toArray,List.map_cons,List.map_nil,hrun]
    rcases find_ok hku.2 hc1 es ms.toList 0 hM.rows hM.kind with ⟨g1,g2,g3,g4⟩|⟨j,e0,m0,g1,g2,g3,g3',g5,g6,g7,g8⟩
    ·refine fin ms ck (fun w' I' hs=>?_) ?_
     ·rw [mdel_none g3]
      exact hM.stay hs
     ·simp [Builtin.delete_,run_underlying hu,hx,MapKept.run_getObj_map hb,hi,MapKept.run_checkKey hku.1 (mk_isKey hku.2 hc1),MapKept.run_findKey hku.1 g4,MapKept.run_setObj_map _ hb]
    ·have hml:(ms.eraseIdxIfInBounds j).toList=ms.toList.eraseIdx j:=by
      unfold Array.eraseIdxIfInBounds
      split
      ·rw [Array.toList_eraseIdx]
      ·rename_i hn
       exact absurd ((List.getElem?_eq_some_iff.1 g2).1) (by simpa using hn)
     refine fin (ms.eraseIdxIfInBounds j) ck (fun w' I' hs=>?_) ?_
     ·rw [mdel_at g1 g3 hM.nodup,hml]
      have hse:=List.eraseIdx_sublist es j
      have hsm:=List.eraseIdx_sublist ms.toList j
      refine ⟨all2_erase j (hM.stay hs).rows,fun e he=>hM.kind e (hse.subset he),(hse.map _).nodup hM.nodup,hM.born.sublist (hsm.map _),fun b hb=>hM.clock b ((hsm.map _).subset hb)⟩
     ·simp [Builtin.delete_,run_underlying hu,hx,MapKept.run_getObj_map hb,hi,MapKept.run_checkKey hku.1 (mk_isKey hku.2 hc1),MapKept.run_findKey hku.1 g8,MapKept.run_setObj_map _ hb]
   ·cases h
  ·cases h
 ·cases h
theorem len_del {P:Program} {os os':List Ob} {t:TypeId} {m ix:Option PV} {q:PV} (h:delP P os t m ix=some (q,os')):os.length≤os'.length:=by
 unfold delP at h
 split at h
 ·split at h
  ·split at h<;>cases h
   simp [setO]
  ·cases h
 ·cases h
theorem run_append_full {P:Program} (w:World) (base:Nat) (t ty e:TypeId) (size bytes:Nat) (hT:SlT P t e size bytes)
  (R R':Nat → Prop) (A:Option Addr) (n:Nat) (xs:List Value) (hx:Rd w R size A n xs) (A':Option Addr) (m c:Nat) (news:List Value) (hr:Rd w R' size A' m news)
  (h0:0 < m) (h63:n+m≤maxLen) (hbytes:(n+m) * bytes≤140737488355328) (hbase:base≤w.heap.size) :
  ∃ v' w',(Builtin.append_ #[t,t] ty #[.slice A n n,.slice A' m c]).run P w = .ok v' w'∧w'.ownsRow base e size v' (n+m) (xs++news)∧Ext No w w':=by
 obtain ⟨ht,⟨i,z,hi,hz,hsize,hby,hzs⟩,hsz⟩:=hT
 subst hsize
 subst hby
 obtain ⟨b',o',rfl,hb',hlt',hc'⟩:=hr.2 h0
 have hsmall:n+m≤9223372036854775807:=by simp only [maxLen] at h63;omega
 have hlen:(xs++news).length=(n+m) * i.size:=by rw [List.length_append,hx.1,hr.1,Nat.add_mul]
 have hnews:∀ j u,news[j]? = some u → w.cell? ((⟨b',o',none⟩:Addr).add j)=some u:=fun j u hu=>by rw [Addr.add_lit];exact hc' j u hu
 have grown:(w.drew.alloc (.cells (xs.toArray++news.toArray++Builtin.zeroCells z.cells (grownCap w (n+m) n e - (n+m))) e)).ownsRow base e i.size
    (.slice (some ⟨w.heap.size,0,none⟩) (n+m) (grownCap w (n+m) n e)) (n+m) (xs++news):=by
  have hge:=grownCap_ge w (n+m) n e
  have hcm:grownCap w (n+m) n e≤maxLen:=grownCap_le_maxLen w (n+m) n e h63
  refine ⟨hlen,.inr ⟨w.heap.size,_,_,rfl,hbase,heap_alloc_new w.drew _,hge,hcm,?_,?_⟩⟩
  ·simp only [Array.size_append,List.size_toArray,size_zeroCells,hzs,hx.1,hr.1,← Nat.add_mul]
   congr 1
   omega
  ·simp only [Array.toList_append,List.append_assoc]
   rw [← List.append_assoc,← hlen]
   exact List.take_left
 rcases A with _|ad
 ·have hn:n=0:=by
   rcases Nat.eq_zero_or_pos n with h|h
   ·exact h
   ·obtain ⟨b,o,h2,_⟩:=hx.2 h
    cases h2
  subst hn
  have hxs:xs=[]:=List.eq_nil_of_length_eq_zero (by simpa using hx.1)
  subst hxs
  have hrun:=run_append_nil (P:=P) w t ty e i z ht hi hz ⟨b',o',none⟩ m c news hr.1 hnews h0 (by omega) (by have hb:=hbytes;simp only [Nat.zero_add] at hb;omega)
  simp only [Nat.zero_add,List.nil_append,Array.empty_append] at grown ⊢
  exact ⟨_,_,hrun,grown,(Ext.refl No w).drew.alloc _⟩
 ·have holds:∀ j u,xs[j]? = some u → w.cell? (ad.add j)=some u:=by
   intro j u hu
   rcases Nat.eq_zero_or_pos n with h|h
   ·subst h
    have hxs:xs=[]:=List.eq_nil_of_length_eq_zero (by simpa using hx.1)
    subst hxs
    simp at hu
   ·obtain ⟨b,o,h2,_,_,hc⟩:=hx.2 h
    injection h2 with h2
    subst h2
    rw [Addr.add_lit]
    exact hc j u hu
  have hrun:=run_append_grow (P:=P) w t ty e i z ht hi hz ad n n xs hx.1 holds ⟨b',o',none⟩ m c news hr.1 hnews (by omega) (by omega) (growslice_fits (by omega) hbytes)
  exact ⟨_,_,hrun,grown,(Ext.refl No w).drew.alloc _⟩
end Go.Proofs.YthhfpcbpiphfiaaGreatDoor
