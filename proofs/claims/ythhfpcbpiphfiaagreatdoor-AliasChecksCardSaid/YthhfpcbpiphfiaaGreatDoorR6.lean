/- What the program computes, and the plain laws of it, part 6. -/
import Derived.Test.YthhfpcbpiphfiaaGreatDoorR5
namespace Go.Proofs.YthhfpcbpiphfiaaGreatDoor
open Go.RowKit
open IntWalk renaming iteOmega → iO, toNatUp → tN
set_option linter.unusedVariables false
set_option linter.unusedSimpArgs false
def partRows (sz:Nat):Nat → List (Nat × Option PV) → Option (List (List D))
 | _,[]=>some []
 | i,(j,q) :: rest=>if j=i then match cellsE q with
   | some cs=>match toDs cs,partRows sz (i+1) rest with
    | some r,some l=>if r.length=sz then some (r :: l) else none
    | _,_=>none
   | none=>none
  else none
def litP (P:Program) (t:TypeId) (len:Nat) (parts:List (Nat × Option PV)):Option PV:=match elOf P t with
 | some (e,sz)=>if len=parts.length∧0 < sz∧len * sz≤16777216∧(zerOf P e).map List.length=some sz then (partRows sz 0 parts).map fun l=>.c (.full sz l) else none
 | none=>none
theorem partRows_ok {w:World} {Γ:G} {sz:Nat}:∀ (parts:List (Nat × Option PV)) (vs:List (Nat × Value)) (i:Nat) (l:List (List D)) (arr:Array Value),
  All2 (fun p v=>p.1=v.1∧∀ q,p.2=some q → RP w Γ q v.2) parts vs → partRows sz i parts=some l → (i+parts.length) * sz≤arr.size →
  ∃ ys,Instr.fill (fun i=>some (i * sz,sz)) arr vs=some ys∧l.length=parts.length∧(∀ r ∈ l,r.length=sz)∧ys.size=arr.size∧∃ m,All2 (RD w Γ.I) l.flatten m∧ys.toList=arr.toList.take (i * sz)++m++arr.toList.drop ((i+parts.length) * sz)
 | [],vs,i,l,arr,hp,h,hs=>by
  rw [All2.nil_l] at hp
  subst hp
  simp only [partRows,Option.some.injEq] at h
  subst h
  exact ⟨arr,rfl,rfl,by simp,rfl,[],trivial,by simp⟩
 | (j,q) :: rest,vs,i,l,arr,hp,h,hs=>by
  obtain ⟨⟨j',v⟩,vs',rfl,⟨h1,h2⟩,h3⟩:=All2.cons_l.1 hp
  simp only at h1 h2
  subst h1
  simp only [List.length_cons] at hs
  simp only [partRows] at h
  split at h
  ·rename_i hj
   subst hj
   split at h
   ·rename_i cs hcs
    split at h
    ·rename_i r l' hr hl'
     split at h
     ·rename_i hrl
      cases h
      cases q with
      | none=>simp [cellsE] at hcs
      | some q =>
       have hc:=cellsE_ok hcs (h2 q rfl)
       obtain ⟨hrd,hrl'⟩:=toDs_ok hr hc
       have hvs:v.cells.toList.length=sz:=by rw [← hrd.length];exact hrl
       have hvs':v.cells.size=sz:=by rw [← Array.length_toList];exact hvs
       have hj2:(j+(rest.length+1)) * sz=j * sz+sz+rest.length * sz:=by rw [Nat.add_mul,Nat.add_mul];omega
       have hsp:=splice v.cells.toList 0 (j * sz) arr (by omega)
       simp only [Nat.add_zero] at hsp
       obtain ⟨ys,g1,g2,g3,g4,m,g5,g6⟩:=partRows_ok rest vs' (j+1) l' ((v.cells.toList.zipIdx 0).foldl (fun (cs:Array Value) (x:Value × Nat)=>cs.setIfInBounds (j * sz+x.2) x.1) arr) h3 hl' (by
        have:((v.cells.toList.zipIdx 0).foldl (fun (cs:Array Value) (x:Value × Nat)=>cs.setIfInBounds (j * sz+x.2) x.1) arr).size=arr.size:=by
         rw [← Array.length_toList,hsp]
         simp only [List.length_append,List.length_take,List.length_drop,Array.length_toList,hvs]
         omega
        rw [this]
        have:(j+1+rest.length) * sz=j * sz+sz+rest.length * sz:=by rw [Nat.add_mul,Nat.add_mul];omega
        omega)
       have hsz:((v.cells.toList.zipIdx 0).foldl (fun (cs:Array Value) (x:Value × Nat)=>cs.setIfInBounds (j * sz+x.2) x.1) arr).size=arr.size:=by
        rw [← Array.length_toList,hsp]
        simp only [List.length_append,List.length_take,List.length_drop,Array.length_toList,hvs]
        omega
       refine ⟨ys,?_,by simp [g2],fun x hx=>?_,by rw [g4,hsz],v.cells.toList++m,hrd.append g5,?_⟩
       ·simp only [Instr.fill]
        rw [if_neg (by simp [hvs'];omega)]
        rw [← g1]
        congr 1
        rw [← Array.foldl_toList,Array.toList_zipIdx]
       ·simp only [List.mem_cons] at hx
        rcases hx with rfl|hx
        ·exact hrl
        ·exact g3 x hx
       ·rw [g6,hsp,hvs]
        have e1:(j+1) * sz=j * sz+sz:=by rw [Nat.add_mul];omega
        have e2:(j+1+rest.length) * sz=j * sz+sz+rest.length * sz:=by rw [Nat.add_mul,Nat.add_mul];omega
        have e3:(j+(rest.length+1)) * sz=j * sz+sz+rest.length * sz:=hj2
        have hA:(arr.toList.take (j * sz)++v.cells.toList).length=j * sz+sz:=by
         simp only [List.length_append,List.length_take,Array.length_toList,hvs]
         omega
        rw [e1,e2,List.length_cons,e3,List.take_left' hA,List.drop_append,hA]
        rw [List.drop_eq_nil_of_le (by omega),List.drop_drop,List.nil_append]
        simp only [List.append_assoc]
        congr 4
        omega
     ·cases h
    ·cases h
   ·cases h
  ·cases h
theorem lit_ok {P:Program} {N p:Nat} {Γ:G} {s:S} {a:Act} {w:World} {o:Oper} {t:TypeId} {len:Nat} {parts:Array (Nat × Operand)} {q:PV} (ho:o.op = .buildSlice t len parts) (h:litP P t len (parts.toList.map fun x=>(x.1,s.ev x.2))=some q) (hI:Inv N Γ s a w):HeapOk P N p Γ s a w o q s.o:=by
 unfold litP at h
 split at h
 ·rename_i e sz hel
  split at h
  ·rename_i hc
   obtain ⟨hlen,hsz,hsm,hz⟩:=hc
   obtain ⟨l,hl,rfl⟩:=Option.map_eq_some_iff.1 h
   obtain ⟨hu,hsz'⟩:=el_run hel
   obtain ⟨zs,hzs,hzl⟩:=Option.map_eq_some_iff.1 hz
   obtain ⟨ie,z,hie,hzz,hzr⟩:=zer_ok hzs
   have hies:ie.size=sz:=by obtain ⟨i',hi',e'⟩:=Option.map_eq_some_iff.1 hsz';rw [hie] at hi';cases hi';exact e'
   have hlm:parts.toList.length=len:=by rw [hlen,List.length_map]
   obtain ⟨ys,g1,g2,g3,g4,m,g5,g6⟩:=partRows_ok (sz:=sz) _ _ 0 l ((Array.range (len * sz)).map (z.cells[· % z.cells.size]!)) (parts_ok hI parts.toList) hl (by simp [hlm])
   simp only [List.length_map,hlm] at g2
   simp only [Nat.zero_mul,List.take_zero,List.nil_append,Nat.zero_add,List.length_map,hlm] at g6
   rw [List.drop_eq_nil_of_le (by simp),List.append_nil] at g6
   have hrun:∀ w':World,(execOp a.eval o).run P w' = .ok (.value (.slice (some ⟨w'.heap.size,0,none⟩) len len)) (w'.alloc (.cells ys e)):=by
    intro w'
    by_cases h0:len=0
    ·subst h0
     have hp0:parts = #[]:=by apply Array.ext';exact List.eq_nil_of_length_eq_zero hlm
     subst hp0
     simp only [Array.toList,List.map_nil,Instr.fill,Nat.zero_mul,Option.some.injEq] at g1
     subst g1
     have hr0:Array.range 0 = #[]:=rfl
     simp [execOp,ho,Instr.buildSlice,run_underlying hu,sz_run hsz',Instr.fill,newRow,hr0]
    ·have hb:=run_buildSlice (P:=P) w' t e len (parts.map fun (i,x)=>(i,a.eval x)) ys ie z hu hie hzz (by rw [hies];simp;omega) (by rw [hies];have:=Nat.mul_pos (Nat.pos_of_ne_zero h0) hsz;omega) (by rw [hies,Array.toList_map];exact g1)
     simp only [execOp,ho,Sem.run_bind,hb,Result.andThen_ok,Sem.run_pure]
   have hE:Ext No w (w.alloc (.cells ys e)):=(Ext.refl No w).alloc _
   have hS:=Same.of_ext hE
   have hm:=hI.m.imm hS w.heap.size (Nat.le_refl _) (by simp)
   refine ⟨_,_,Γ.imm w.heap.size,.inl (hrun w),⟨?_,_,by rw [g2]⟩,hI.heap hm (imm_stay hS _) (fun j hj=>⟨hj,rfl,rfl⟩),grow_imm hE _ (Nat.le_refl _)⟩
   rw [rd_sl]
   refine ⟨_,len,m,by rw [g2],by omega,⟨?_,fun _=>⟨_,0,rfl,.inr rfl,by simp,fun j u hu'=>?_⟩⟩,g3,g5.mono fun _ _=>RD.stay (imm_stay hS _) _ _⟩
   ·rw [← g6,Array.length_toList,g4];simp [g2]
   ·rw [(Blk.new w e ys).cell,Nat.zero_add,← Array.getElem?_toList,g6]
    exact hu'
  ·cases h
 ·cases h
def E.kill (k:Nat):E → E
 | .own j n=>if j=k then .any else .own j n
 | .orow j sz i f=>if j=k then .any else .orow j sz i f
 | .ptr j f=>if j=k then .any else .ptr j f
 | .fn f ds ks=>if k ∈ ks then .any else .fn f ds ks
 | .mp j=>if j=k then .any else .mp j
 | .seg j sz lo n=>if j=k then .any else .seg j sz lo n
 | e=>e
def PV.kill (k:Nat):PV → PV
 | .c e=>.c (e.kill k)
 | .agg cs=>.agg (cs.map (E.kill k))
 | .undef=>.undef
 | .two x y=>.two (x.kill k) (y.kill k)
 | .three x y z=>.three (x.kill k) (y.kill k) (z.kill k)
def killT (k:Nat):List (Nat × PV) → List (Nat × PV)
 | []=>[]
 | (i,q) :: t=>(i,q.kill k) :: killT k t
def Ob.kill (k:Nat):Ob → Ob
 | .box ty cs=>.box ty (cs.map (E.kill k))
 | .loop l L t=>.loop l L (killT k t)
 | o=>o
def killO (k:Nat):List Ob → List Ob
 | []=>[]
 | o :: os=>o.kill k :: killO k os
theorem look_kill (k i:Nat):∀ t:List (Nat × PV),look (killT k t) i=(look t i).map (PV.kill k)
 | []=>rfl
 | (d,q) :: t=>by
  simp only [killT,look]
  split
  ·rfl
  ·exact look_kill k i t
theorem killO_get (k i:Nat):∀ os:List Ob,(killO k os)[i]? = (os[i]?).map (Ob.kill k)
 | []=>by simp [killO]
 | o :: os=>by
  cases i with
  | zero=>simp [killO]
  | succ i=>simpa [killO] using killO_get k i os
theorem killO_length (k:Nat):∀ os:List Ob,(killO k os).length=os.length
 | []=>rfl
 | o :: os=>by simp [killO,killO_length k os]
theorem RE.kill {w:World} {Γ:G} {e:E} {y:Value} (k:Nat) (h:RE w Γ e y):RE w Γ (e.kill k) y∧k ∉ (e.kill k).keys:=by
 have h1:=RE.one h
 cases e<;>simp only [E.kill]<;>first|exact ⟨h,by simp [E.keys]⟩|skip
 all_goals (split<;>first|exact ⟨h1,by simp [E.keys]⟩|(rename_i hk;exact ⟨h,by simpa [E.keys,eq_comm] using hk⟩))
theorem re_kill {w:World} {Γ:G} (k:Nat):∀ {cs:List E} {ys:List Value},All2 (RE w Γ) cs ys → All2 (RE w Γ) (cs.map (E.kill k)) ys∧k ∉ (cs.map (E.kill k)).flatMap E.keys
 | [],ys,h=>⟨h,by simp⟩
 | e :: cs,y :: ys,h=>by
  obtain ⟨h1,h2⟩:=RE.kill k h.1
  obtain ⟨h3,h4⟩:=re_kill k h.2
  refine ⟨⟨h1,h3⟩,?_⟩
  simp only [List.map_cons,List.flatMap_cons,List.mem_append,not_or]
  exact ⟨h2,h4⟩
 | _ :: _,[],h=>h.elim
theorem RP.kill {w:World} {Γ:G} (k:Nat):∀ {q:PV} {y:Value},RP w Γ q y → RP w Γ (q.kill k) y∧k ∉ (q.kill k).keys
 | .c e,y,h=>RE.kill k h
 | .agg cs,y,⟨xs,h1,h2⟩=>⟨⟨xs,h1,(re_kill k h2).1⟩,(re_kill k h2).2⟩
 | .undef,y,h=>⟨h,by simp [PV.kill,PV.keys]⟩
 | .two x z,y,⟨u,v,h1,h2,h3⟩=>by
  obtain ⟨a1,a2⟩:=RP.kill k h2
  obtain ⟨b1,b2⟩:=RP.kill k h3
  exact ⟨⟨u,v,h1,a1,b1⟩,by simp [PV.kill,PV.keys,a2,b2]⟩
 | .three x z t,y,⟨u,v,r,h1,h2,h3,h4⟩=>by
  obtain ⟨a1,a2⟩:=RP.kill k h2
  obtain ⟨b1,b2⟩:=RP.kill k h3
  obtain ⟨c1,c2⟩:=RP.kill k h4
  exact ⟨⟨u,v,r,h1,a1,b1,c1⟩,by simp [PV.kill,PV.keys,a2,b2,c2]⟩
def srcRows (os:List Ob) (sz:Nat):Option PV → Option (List (List D))
 | some (.c (.sl sz' l))=>if sz'=sz then some l else none
 | some (.c (.full sz' l))=>if sz'=sz then some l else none
 | some (.c (.own k n))=>match os[k]? with
  | some (.arr _ sz' rows)=>if sz'=sz∧n≤rows.length then some (rows.take n) else none
  | _=>none
 | some (.c (.seg k sz1 lo n))=>match os[k]? with
  | some (.arr _ sz' rows)=>if sz'=sz∧sz1=sz∧lo+n≤rows.length then some ((rows.drop lo).take n) else none
  | _=>none
 | some (.c (.v (.slice _ 0 _)))=>some []
 | _=>none
def bytOf (P:Program) (t:TypeId):Option Nat:=(P.info? t).map (·.bytes)
def appP (P:Program) (p:Nat) (os:List Ob) (t:TypeId) (x y:Option PV):Option (PV × List Ob × Option Nat):=match elOf P t with
 | some (e,sz)=>match bytOf P e,srcRows os sz y with
  | some by',some ys=>if 0 < sz∧(zerOf P e).map List.length=some sz then match x with
    | some (.c (.v (.slice none 0 0)))=>if (ys.length:Int) * by'≤140737488355328∧(ys.length:Int)≤9223372036854775807 then some (.c (.own os.length ys.length),os++[.arr e sz ys],none) else none
    | some (.c (.full sz' l))=>if sz'=sz∧(0 < ys.length∨l.length=0)∧((l.length:Int)+ys.length) * by'≤140737488355328∧(l.length:Int)+ys.length≤9223372036854775807 then some (.c (.own os.length (l.length+ys.length)),os++[.arr e sz (l++ys)],none) else none
    | some (.c (.own k n))=>match os[k]? with
     | some (.arr e' sz' rows)=>if e'=e∧sz'=sz∧p≤k∧n≤rows.length∧((n:Int)+ys.length) * by'≤140737488355328∧(n:Int)+ys.length≤9223372036854775807 then some (.c (.own k (n+ys.length)),setO (killO k os) k (.arr e sz (rows.take n++ys)),some k) else none
     | _=>none
    | _=>none
   else none
  | _,_=>none
 | none=>none
theorem take_rows {α:Type} {sz:Nat}:∀ {q:List (List α)} {k:Nat},(∀ x ∈ q,x.length=sz) → k≤q.length → q.flatten.take (k * sz)=(q.take k).flatten
 | [],k,_,hk=>by simp at hk;subst hk;simp
 | x :: q,0,_,_=>by simp
 | x :: q,k+1,hx,hk=>by
  have hx0:x.length=sz:=hx x (by simp)
  have e1:(k+1) * sz=x.length+k * sz:=by rw [hx0,Nat.add_mul];omega
  rw [e1];simp only [List.flatten_cons,List.take_succ_cons];rw [List.take_length_add_append,take_rows (fun y hy=>hx y (by simp [hy])) (by simpa using hk)]
theorem drop_rows {α:Type} {sz:Nat}:∀ {q:List (List α)} {k:Nat},(∀ x ∈ q,x.length=sz) → k≤q.length → q.flatten.drop (k * sz)=(q.drop k).flatten
 | [],k,_,hk=>by simp at hk;subst hk;simp
 | x :: q,0,_,_=>by simp
 | x :: q,k+1,hx,hk=>by
  have hx0:x.length=sz:=hx x (by simp)
  have e1:(k+1) * sz=x.length+k * sz:=by rw [hx0,Nat.add_mul];omega
  rw [e1];simp only [List.flatten_cons,List.drop_succ_cons];rw [List.drop_length_add_append,drop_rows (fun y hy=>hx y (by simp [hy])) (by simpa using hk)]
theorem src_ok {os:List Ob} {sz:Nat} {Γ:G} {w:World} {x:Option PV} {ys:List (List D)} {v:Value} (hm:MemOk Γ os w) (h:srcRows os sz x=some ys) (hx:∀ q,x=some q → RP w Γ q v) :
  (∀ r ∈ ys,r.length=sz)∧∃ A c news,v = .slice A ys.length c∧Rd w (fun _=>True) sz A ys.length news∧All2 (RD w Γ.I) ys.flatten news:=by
 unfold srcRows at h
 split at h
 ·rename_i sz' l
  split at h<;>cases h
  rename_i e;subst e
  obtain ⟨A,c,xs,h1,h2,h3,h4,h5⟩:=rd_sl.1 (hx _ rfl)
  exact ⟨h4,A,c,xs,h1,h3.more (fun _ _=>trivial),h5⟩
 ·rename_i sz' l
  split at h<;>cases h
  rename_i e;subst e
  obtain ⟨A,c,xs,h1,h2,h3,h4,h5⟩:=rd_sl.1 (hx _ rfl).1
  exact ⟨h4,A,c,xs,h1,h3.more (fun _ _=>trivial),h5⟩
 ·rename_i k n
  split at h
  ·rename_i el sz' rows hk
   split at h<;>cases h
   rename_i e
   obtain ⟨rfl,hn⟩:=e
   obtain ⟨h1,h2⟩:=hx _ rfl
   obtain ⟨g1,g2,g3,g4⟩:=hm.ob k _ hk
   have hlen:(rows.take n).length=n:=by rw [List.length_take];omega
   refine ⟨fun r hr=>g1 r (List.mem_of_mem_take hr),?_⟩
   rcases h2 with ⟨h3,⟨A,h4⟩,rfl⟩|⟨h3,h4,h5⟩
   ·exact ⟨A,0,[],by rw [h4];simp,by simpa using Rd.nil,by simp [All2]⟩
   ·obtain ⟨cur,b1,b2,b3,b4,b5⟩:=g4 h3
    have hfl:∀ (q:List (List D)) (k:Nat),(∀ x ∈ q,x.length=sz') → k≤q.length → q.flatten.take (k * sz')=(q.take k).flatten:=by
     intro q
     induction q with
     | nil=>intro k _ hk;simp at hk;subst hk;simp
     | cons x q ih =>
      intro k hx hk
      cases k with
      | zero=>simp
      | succ k =>
       have hx0:x.length=sz':=hx x (by simp)
       have e1:(k+1) * sz'=x.length+k * sz':=by rw [hx0,Nat.add_mul];omega
       rw [e1];simp only [List.flatten_cons,List.take_succ_cons];rw [List.take_length_add_append,ih k (fun y hy=>hx y (by simp [hy])) (by simpa using hk)]
    have hb5:=b5.take (n * sz')
    rw [hfl rows n g1 hn,List.take_take,Nat.min_eq_left (Nat.mul_le_mul_right _ hn)] at hb5
    refine ⟨_,_,cur.toList.take (n * sz'),by rw [h4,hlen],⟨?_,fun _=>⟨_,0,rfl,trivial,b1.lt,fun j u hu=>?_⟩⟩,hb5⟩
    ·rw [List.length_take,Array.length_toList,b2,hlen]
     exact Nat.min_eq_left (Nat.mul_le_mul_right _ (by omega))
    ·rw [b1.cell,Nat.zero_add,← Array.getElem?_toList]
     rw [List.getElem?_take] at hu
     split at hu
     ·exact hu
     ·cases hu
  ·cases h
 ·rename_i k sz1 lo n
  split at h
  ·rename_i el sz' rows hk
   split at h<;>cases h
   rename_i e
   obtain ⟨rfl,rfl,hn⟩:=e
   obtain ⟨h1,A,c,h2,h3,h4⟩:=hx _ rfl
   obtain ⟨g1,g2,g3,g4⟩:=hm.ob k _ hk
   have hlen:((rows.drop lo).take n).length=n:=by rw [List.length_take,List.length_drop];omega
   refine ⟨fun r hr=>g1 r (List.mem_of_mem_drop (List.mem_of_mem_take hr)),?_⟩
   rcases Nat.eq_zero_or_pos n with h0|h0
   ·subst h0
    exact ⟨A,c,[],by rw [h2,hlen],by rw [hlen];exact Rd.nil,by simp [All2]⟩
   ·obtain ⟨h5,h6,rfl⟩:=h4 h0
    obtain ⟨cur,b1,b2,b3,b4,b5⟩:=g4 h5
    have hb5:=(b5.drop (lo * sz1)).take (n * sz1)
    rw [drop_rows g1 (by omega),take_rows (fun x hx=>g1 x (List.mem_of_mem_drop hx)) (by rw [List.length_drop];omega)] at hb5
    have e1:((cur.toList.take (rows.length * sz1)).drop (lo * sz1)).take (n * sz1)=(cur.toList.drop (lo * sz1)).take (n * sz1):=by
     rw [List.drop_take,List.take_take,Nat.min_eq_left]
     have:(lo+n) * sz1≤rows.length * sz1:=Nat.mul_le_mul_right _ hn
     rw [Nat.add_mul] at this
     omega
    rw [e1] at hb5
    refine ⟨_,c,(cur.toList.drop (lo * sz1)).take (n * sz1),by rw [h2,hlen],⟨?_,fun _=>⟨_,lo * sz1,rfl,trivial,b1.lt,fun j u hu=>?_⟩⟩,hb5⟩
    ·rw [List.length_take,List.length_drop,Array.length_toList,b2,hlen,← Nat.sub_mul]
     exact Nat.min_eq_left (Nat.mul_le_mul_right _ (by omega))
    ·rw [b1.cell,← Array.getElem?_toList]
     rw [List.getElem?_take] at hu
     split at hu
     ·rw [List.getElem?_drop] at hu;exact hu
     ·cases hu
  ·cases h
 ·cases h
  have:=(hx _ rfl).1
  exact ⟨by simp,_,_,[],by rw [this];rfl,Rd.nil,trivial⟩
 ·cases h
end Go.Proofs.YthhfpcbpiphfiaaGreatDoor
