/- What the program computes, and the plain laws of it, part 11. -/
import Derived.Test.YthhfpcbpiphfiaaGreatDoorR10
namespace Go.Proofs.YthhfpcbpiphfiaaGreatDoor
open Go.RowKit
open IntWalk renaming iteOmega → iO, toNatUp → tN
set_option linter.unusedVariables false
set_option linter.unusedSimpArgs false
def posK:List Nat → Nat → Option Nat
 | [],_=>none
 | j :: ks,k=>if j=k then some 0 else (posK ks k).map (· + 1)
def posKs (ks:List Nat):List Nat → Option (List Nat)
 | []=>some []
 | k :: r=>match posK ks k,posKs ks r with
  | some j,some js=>some (j :: js)
  | _,_=>none
def seeE (v:Bool) (os:List Ob) (ks:List Nat):E → Option E
 | .own k n=>match posK ks k with
  | some j=>some (.own j n)
  | none=>match v,os[k]? with
   | true,some (.arr _ sz rows)=>if n≤rows.length then some (.sl sz (rows.take n)) else none
   | _,_=>none
 | .ptr k f=>(posK ks k).map fun j=>.ptr j f
 | .orow k sz i f=>(posK ks k).map fun j=>.orow j sz i f
 | .fn f ds cap=>(posKs ks cap).map fun js=>.fn f ds js
 | .mp k=>(posK ks k).map fun j=>.mp j
 | .seg k sz lo n=>match posK ks k with
  | some j=>some (.seg j sz lo n)
  | none=>match v,os[k]? with
   | true,some (.arr _ sz' rows)=>if sz'=sz∧lo+n≤rows.length then some (.sl sz ((rows.drop lo).take n)) else none
   | _,_=>none
 | .v x=>some (.v x)
 | .sl sz l=>some (.sl sz l)
 | .full sz l=>some (.sl sz l)
 | .row cs=>some (.row cs)
 | .any=>some .any
def seeEs (v:Bool) (os:List Ob) (ks:List Nat):List E → Option (List E)
 | []=>some []
 | e :: r=>match seeE v os ks e,seeEs v os ks r with
  | some e',some r'=>some (e' :: r')
  | _,_=>none
def seeP (v:Bool) (os:List Ob) (ks:List Nat):Option PV → Option PV
 | some (.c e)=>(seeE v os ks e).map PV.c
 | some (.agg cs)=>(seeEs v os ks cs).map PV.agg
 | _=>none
def seePs (v:Bool) (os:List Ob) (ks:List Nat):List (Option PV) → Option (List PV)
 | []=>some []
 | q :: r=>match seeP v os ks q,seePs v os ks r with
  | some q',some r'=>some (q' :: r')
  | _,_=>none
def seeO (v:Bool) (os:List Ob) (ks:List Nat):Option Ob → Option Ob
 | some (.box ty cs)=>(seeEs v os ks cs).map (Ob.box ty)
 | some (.arr el sz rows)=>some (.arr el sz rows)
 | some (.map kk ag es)=>some (.map kk ag es)
 | some (.loop _ _ _)=>none
 | none=>none
def seeOs (v:Bool) (os:List Ob) (ks:List Nat):List Nat → Option (List Ob)
 | []=>some []
 | k :: r=>match seeO v os ks os[k]?,seeOs v os ks r with
  | some o,some l=>some (o :: l)
  | _,_=>none
def seeG (v:Bool) (ks:List Nat) (Γ:G):G:=⟨ks.length,fun j=>Γ.β (ks.getD j 0),fun j=>Γ.cap (ks.getD j 0),fun b=>Γ.I b∨(v=true∧Mine Γ b∧∀ k ∈ ks,0 < Γ.cap k → Γ.β k≠b)⟩
theorem posK_ok:∀ {ks:List Nat} {k j:Nat},posK ks k=some j → j < ks.length∧ks.getD j 0=k
 | [],k,j,h=>by simp [posK] at h
 | i :: ks,k,j,h=>by
  simp only [posK] at h
  split at h
  ·rename_i e;cases h;exact ⟨by simp,by simpa using e⟩
  ·obtain ⟨j',h1,rfl⟩:=Option.map_eq_some_iff.1 h
   obtain ⟨h2,h3⟩:=posK_ok h1
   exact ⟨by simp;omega,by simpa using h3⟩
theorem posK_none:∀ {ks:List Nat} {k:Nat},posK ks k=none → k ∉ ks
 | [],k,_=>by simp
 | i :: ks,k,h=>by
  simp only [posK] at h
  split at h
  ·cases h
  ·rename_i e
   have:=posK_none (Option.map_eq_none_iff.1 h)
   simp only [List.mem_cons,not_or]
   exact ⟨fun h=>e h.symm,this⟩
theorem posKs_ok {ks:List Nat}:∀ {r js:List Nat},posKs ks r=some js → js.map (fun j=>ks.getD j 0)=r∧∀ j ∈ js,j < ks.length
 | [],js,h=>by simp [posKs] at h;subst h;simp
 | k :: r,js,h=>by
  simp only [posKs] at h
  split at h
  ·rename_i j js' h1 h2
   cases h
   obtain ⟨a1,a2⟩:=posK_ok h1
   obtain ⟨b1,b2⟩:=posKs_ok h2
   exact ⟨by simp only [List.map_cons,b1,a2],by simpa [a1] using b2⟩
  ·cases h
section
variable {v:Bool} {ks:List Nat} {Γ:G} {os:List Ob} {w:World}
theorem see_stay:Stay w Γ.I w (seeG v ks Γ).I:=⟨Nat.le_refl _,fun _ _ _=>rfl,fun _ h=>.inl h⟩
theorem seeE_ok (hm:MemOk Γ os w) (hks:∀ k ∈ ks,k < Γ.n) {e e':E} {y:Value} (h:seeE v os ks e=some e') (hr:RE w Γ e y):RE w (seeG v ks Γ) e' y:=by
 cases e with
 | own k n =>
  simp only [seeE] at h
  split at h
  ·rename_i j hj
   cases h
   obtain ⟨h1,h2⟩:=posK_ok hj
   refine ⟨h1,?_⟩
   have:=hr.2
   unfold OwnRep at this ⊢
   simp only [seeG,h2]
   exact this
  ·rename_i hj
   split at h
   ·rename_i el sz rows hk
    split at h
    ·rename_i hnr
     cases h
     obtain ⟨g1,g2,g3,g4⟩:=hm.ob k _ hk
     have hnl:(rows.take n).length=n:=by rw [List.length_take];omega
     show RD w _ (.sl sz (rows.take n)) y
     rw [rd_sl]
     rcases hr.2 with ⟨c1,⟨A,rfl⟩,rfl⟩|⟨c1,rfl,c2⟩
     ·exact ⟨A,0,[],by simp,by simp,by simpa using Rd.nil,by simp,by simp [All2]⟩
     ·obtain ⟨cur,b1,b2,b3,b4,b5⟩:=g4 c1
      have hb5:=b5.take (n * sz)
      rw [take_rows g1 hnr,List.take_take,Nat.min_eq_left (Nat.mul_le_mul_right _ hnr)] at hb5
      refine ⟨_,Γ.cap k,cur.toList.take (n * sz),by rw [hnl],by omega,⟨?_,fun _=>⟨_,0,rfl,.inr ⟨rfl,⟨k,hr.1,c1,rfl⟩,fun k' hk' hc' e=>?_⟩,b1.lt,fun i u hu=>?_⟩⟩,fun r hr=>g1 r (List.mem_of_mem_take hr),hb5.mono fun _ _=>RD.stay see_stay _ _⟩
      ·rw [List.length_take,Array.length_toList,b2,hnl]
       exact Nat.min_eq_left (Nat.mul_le_mul_right _ (by omega))
      ·have:=hm.sep k' k (hks k' hk') hr.1 hc' c1 e
       subst this
       exact posK_none hj hk'
      ·rw [b1.cell,Nat.zero_add,← Array.getElem?_toList]
       rw [List.getElem?_take] at hu
       split at hu
       ·exact hu
       ·cases hu
    ·cases h
   ·cases h
 | ptr k f =>
  obtain ⟨j,hj,rfl⟩:=Option.map_eq_some_iff.1 h
  obtain ⟨h1,h2⟩:=posK_ok hj
  exact ⟨h1,by rw [hr.2];simp only [seeG,h2]⟩
 | orow k sz i f =>
  obtain ⟨j,hj,rfl⟩:=Option.map_eq_some_iff.1 h
  obtain ⟨h1,h2⟩:=posK_ok hj
  exact ⟨h1,by rw [hr.2];simp only [seeG,h2]⟩
 | fn f ds cap =>
  obtain ⟨js,hj,rfl⟩:=Option.map_eq_some_iff.1 h
  obtain ⟨h1,h2⟩:=posKs_ok hj
  obtain ⟨xs,h3,h4,h5⟩:=hr
  refine ⟨xs,?_,fun hb=>(h4 hb).mono fun _ _=>RD.stay see_stay _ _,h2⟩
  rw [h3,← h1]
  congr 1
  rw [List.map_map]
  rfl
 | mp k =>
  obtain ⟨j,hj,rfl⟩:=Option.map_eq_some_iff.1 h
  obtain ⟨h1,h2⟩:=posK_ok hj
  exact ⟨h1,by rw [hr.2];simp only [seeG,h2]⟩
 | seg k sz lo n =>
  simp only [seeE] at h
  split at h
  ·rename_i j hj
   cases h
   obtain ⟨h1,h2⟩:=posK_ok hj
   refine ⟨h1,?_⟩
   have:=hr.2
   unfold SegRep at this ⊢
   simp only [seeG,h2]
   exact this
  ·rename_i hj
   split at h
   ·rename_i el sz' rows hk
    split at h
    ·rename_i hnr
     obtain ⟨rfl,hnr⟩:=hnr
     cases h
     obtain ⟨g1,g2,g3,g4⟩:=hm.ob k _ hk
     obtain ⟨hkn,A,c,rfl,hnc,hA⟩:=hr
     have hnl:((rows.drop lo).take n).length=n:=by rw [List.length_take,List.length_drop];omega
     show RD w _ (.sl sz' ((rows.drop lo).take n)) _
     rw [rd_sl]
     rcases Nat.eq_zero_or_pos n with h0|h0
     ·subst h0
      exact ⟨A,c,[],by simp,by simp,by simpa using Rd.nil,by simp,by simp [All2]⟩
     ·obtain ⟨c1,c2,rfl⟩:=hA h0
      obtain ⟨cur,b1,b2,b3,b4,b5⟩:=g4 c1
      have hb5:=(b5.drop (lo * sz')).take (n * sz')
      rw [drop_rows g1 (by omega),take_rows (fun x hx=>g1 x (List.mem_of_mem_drop hx)) (by rw [List.length_drop];omega)] at hb5
      have hle:(lo+n) * sz'≤rows.length * sz':=Nat.mul_le_mul_right _ hnr
      rw [Nat.add_mul] at hle
      rw [List.drop_take,List.take_take,Nat.min_eq_left (by omega)] at hb5
      refine ⟨_,c,(cur.toList.drop (lo * sz')).take (n * sz'),by rw [hnl],by omega,⟨?_,fun _=>⟨_,lo * sz',rfl,.inr ⟨rfl,⟨k,hkn,c1,rfl⟩,fun k' hk' hc' e=>?_⟩,b1.lt,fun i u hu=>?_⟩⟩,fun r hr=>g1 r (List.mem_of_mem_drop (List.mem_of_mem_take hr)),hb5.mono fun _ _=>RD.stay see_stay _ _⟩
      ·have hle2:rows.length * sz'≤Γ.cap k * sz':=Nat.mul_le_mul_right _ b3
       rw [List.length_take,List.length_drop,Array.length_toList,b2,hnl]
       omega
      ·have:=hm.sep k' k (hks k' hk') hkn hc' c1 e
       subst this
       exact posK_none hj hk'
      ·rw [b1.cell,← Array.getElem?_toList]
       rw [List.getElem?_take] at hu
       split at hu
       ·rw [List.getElem?_drop] at hu;exact hu
       ·cases hu
    ·cases h
   ·cases h
 | v x=>simp only [seeE,Option.some.injEq] at h;subst h;exact hr
 | sl sz l=>simp only [seeE,Option.some.injEq] at h;subst h;exact RD.stay see_stay _ _ hr
 | full sz l=>simp only [seeE,Option.some.injEq] at h;subst h;exact RD.stay see_stay _ _ hr.1
 | row cs =>
  simp only [seeE,Option.some.injEq] at h;subst h
  obtain ⟨b,o,xs,h1,h2,h3,h4,h5⟩:=hr
  exact ⟨b,o,xs,h1,.inl h2,h3,h4,h5.mono fun _ _=>RD.stay see_stay _ _⟩
 | any=>simp only [seeE,Option.some.injEq] at h;subst h;exact hr
theorem seeEs_ok (hm:MemOk Γ os w) (hks:∀ k ∈ ks,k < Γ.n):∀ {cs cs':List E} {ys:List Value},seeEs v os ks cs=some cs' → All2 (RE w Γ) cs ys → All2 (RE w (seeG v ks Γ)) cs' ys
 | [],cs',ys,h,hr=>by simp [seeEs] at h;subst h;rw [All2.nil_l] at hr;subst hr;trivial
 | e :: cs,cs',ys,h,hr=>by
  simp only [seeEs] at h
  split at h
  ·rename_i e' r' h1 h2
   cases h
   obtain ⟨y,m,rfl,h3,h4⟩:=All2.cons_l.1 hr
   exact ⟨seeE_ok hm hks h1 h3,seeEs_ok hm hks h2 h4⟩
  ·cases h
theorem seeP_ok (hm:MemOk Γ os w) (hks:∀ k ∈ ks,k < Γ.n) {q:Option PV} {q':PV} {y:Value} (h:seeP v os ks q=some q') (hr:∀ r,q=some r → RP w Γ r y):RP w (seeG v ks Γ) q' y:=by
 unfold seeP at h
 split at h
 ·obtain ⟨e',h1,rfl⟩:=Option.map_eq_some_iff.1 h
  exact seeE_ok hm hks h1 (hr _ rfl)
 ·obtain ⟨cs',h1,rfl⟩:=Option.map_eq_some_iff.1 h
  obtain ⟨xs,h2,h3⟩:=hr _ rfl
  exact ⟨xs,h2,seeEs_ok hm hks h1 h3⟩
 ·cases h
theorem seePs_ok (hm:MemOk Γ os w) (hks:∀ k ∈ ks,k < Γ.n):∀ {l:List (Option PV)} {ys:List Value} {qs:List PV},All2 (fun q y=>∀ r,q=some r → RP w Γ r y) l ys → seePs v os ks l=some qs → All2 (RP w (seeG v ks Γ)) qs ys
 | [],ys,qs,hl,h=>by rw [All2.nil_l] at hl;subst hl;simp [seePs] at h;subst h;trivial
 | x :: xs,ys,qs,hl,h=>by
  obtain ⟨y,m,rfl,h3,h4⟩:=All2.cons_l.1 hl
  simp only [seePs] at h
  split at h
  ·rename_i q' r' h1 h2
   cases h
   exact ⟨seeP_ok hm hks h1 h3,seePs_ok hm hks h4 h2⟩
  ·cases h
theorem seeOs_get:∀ {l:List Nat} {os':List Ob},seeOs v os ks l=some os' → os'.length=l.length∧∀ (j:Nat) (o:Ob),os'[j]? = some o → ∃ k:Nat,l[j]? = some k∧seeO v os ks os[k]? = some o
 | [],os',h=>by simp [seeOs] at h;subst h;simp
 | k :: l,os',h=>by
  simp only [seeOs] at h
  split at h
  ·rename_i o l' h1 h2
   cases h
   obtain ⟨i1,i2⟩:=seeOs_get h2
   refine ⟨by simp [i1],fun j o' ho=>?_⟩
   cases j with
   | zero=>simp at ho;subst ho;exact ⟨k,by simp,h1⟩
   | succ j =>
    obtain ⟨k',h3,h4⟩:=i2 j o' (by simpa using ho)
    exact ⟨k',by simpa using h3,h4⟩
  ·cases h
theorem see_mem (hm:MemOk Γ os w) (hks:∀ k ∈ ks,k < Γ.n) (hnd:ks.Nodup) {os':List Ob} (h:seeOs v os ks ks=some os'):MemOk (seeG v ks Γ) os' w:=by
 obtain ⟨h1,h2⟩:=seeOs_get h
 have hget:∀ j,j < ks.length → ∃ k,ks[j]? = some k∧k ∈ ks∧ks.getD j 0=k:=fun j hj=>⟨ks[j],List.getElem?_eq_getElem hj,List.getElem_mem _,by simp [List.getD,hj]⟩
 refine ⟨h1.symm,fun j o ho=>?_,fun j j' hj hj' hc hc' he=>?_,fun j hj hc=>?_,fun b hb=>?_,⟨hm.pin.1,fun b hb=>.inl (hm.pin.2 b hb)⟩⟩
 ·obtain ⟨k,h3,h4⟩:=h2 j o ho
  have hgk:ks.getD j 0=k:=by simp [List.getD,h3]
  unfold seeO at h4
  split at h4
  ·rename_i ty cs hk
   obtain ⟨cs',h5,rfl⟩:=Option.map_eq_some_iff.1 h4
   obtain ⟨j1,xs,j2,j3,j6⟩:=hm.ob k _ hk
   exact ⟨by simp only [seeG,hgk];exact j1,xs,by simp only [seeG,hgk];exact j2,seeEs_ok hm hks h5 j3,by unfold Room;simp only [seeG,hgk];exact j6⟩
  ·rename_i el sz rows hk
   cases h4
   obtain ⟨j1,j2,j3,j4⟩:=hm.ob k _ hk
   refine ⟨j1,j2,by simp only [seeG,hgk];exact j3,fun hc=>?_⟩
   simp only [seeG,hgk] at hc ⊢
   obtain ⟨cur,m1,m2,m3,m4,m5⟩:=j4 hc
   exact ⟨cur,m1,m2,m3,m4,m5.mono fun _ _=>RD.stay (see_stay (v:=v) (ks:=ks)) _ _⟩
  ·rename_i kk ag es hk
   cases h4
   obtain ⟨j1,ms,ck,j2,j3⟩:=hm.ob k _ hk
   exact ⟨by simp only [seeG,hgk];exact j1,ms,ck,by simp only [seeG,hgk];exact j2,j3.stay (see_stay (v:=v) (ks:=ks))⟩
  ·cases h4
  ·cases h4
 ·obtain ⟨k,a1,a2,a3⟩:=hget j hj
  obtain ⟨k',b1,b2,b3⟩:=hget j' hj'
  simp only [seeG,a3,b3] at hc hc' he
  have:=hm.sep k k' (hks k a2) (hks k' b2) hc hc' he
  subst this
  exact (List.getElem?_inj (h₀:=hj) (hnd) ).1 (a1.trans b1.symm)
 ·obtain ⟨k,a1,a2,a3⟩:=hget j hj
  simp only [seeG,a3] at hc ⊢
  rintro (h3|⟨_,_,h3⟩)
  ·exact hm.off k (hks k a2) hc h3
  ·exact h3 k a2 hc rfl
 ·rcases hb with hb|⟨_,⟨k,h3,h4,rfl⟩,_⟩
  ·exact hm.lt b hb
  ·exact mine_lt hm h3 h4
end
def E.ren (ρ:Nat → Nat):E → E
 | .own k n=>.own (ρ k) n
 | .ptr k f=>.ptr (ρ k) f
 | .orow k sz i f=>.orow (ρ k) sz i f
 | .fn f ds cap=>.fn f ds (cap.map ρ)
 | .mp k=>.mp (ρ k)
 | .seg k sz lo n=>.seg (ρ k) sz lo n
 | .v x=>.v x
 | .sl sz l=>.sl sz l
 | .full sz l=>.full sz l
 | .row cs=>.row cs
 | .any=>.any
def PV.ren (ρ:Nat → Nat):PV → PV
 | .c e=>.c (e.ren ρ)
 | .agg cs=>.agg (cs.map (E.ren ρ))
 | .undef=>.undef
 | .two x y=>.two (x.ren ρ) (y.ren ρ)
 | .three x y z=>.three (x.ren ρ) (y.ren ρ) (z.ren ρ)
def renT (ρ:Nat → Nat):List (Nat × PV) → List (Nat × PV)
 | []=>[]
 | (i,q) :: t=>(i,q.ren ρ) :: renT ρ t
theorem look_ren (ρ:Nat → Nat) (i:Nat):∀ t:List (Nat × PV),look (renT ρ t) i=(look t i).map (PV.ren ρ)
 | []=>rfl
 | (d,q) :: t=>by
  simp only [renT,look]
  split
  ·rfl
  ·exact look_ren ρ i t
def Ob.ren (ρ:Nat → Nat):Ob → Ob
 | .box ty cs=>.box ty (cs.map (E.ren ρ))
 | .arr el sz rows=>.arr el sz rows
 | .map kk ag es=>.map kk ag es
 | .loop l L t=>.loop l L (renT ρ t)
def flatD:D → Bool
 | .v _=>true
 | .sl _ _=>false
def flatE:E → Bool
 | .v _=>true
 | .own _ _=>true
 | .ptr _ _=>true
 | .orow _ _ _ _=>true
 | .fn _ ds _=>ds.all flatD
 | .mp _=>true
 | .seg _ _ _ _=>true
 | .any=>true
 | _=>false
def flatP:PV → Bool
 | .c e=>flatE e
 | .agg cs=>cs.all flatE
 | .undef=>true
 | .two x y=>flatP x && flatP y
 | .three x y z=>flatP x && flatP y && flatP z
def flatO:Ob → Bool
 | .box _ cs=>cs.all flatE
 | .arr _ _ rows=>rows.all fun r=>r.all flatD
 | .map _ _ es=>es.all fun e=>e.2.all flatD
 | .loop _ _ _=>false
theorem flat_rd {w:World} {I I':Nat → Prop} {d:D} {y:Value} (h:flatD d=true) (hr:RD w I d y):RD w I' d y:=by
 cases d with
 | v x=>rw [RD] at hr ⊢;exact hr
 | sl sz l=>cases h
theorem flat_rds {w:World} {I I':Nat → Prop}:∀ {ds:List D} {ys:List Value},ds.all flatD=true → All2 (RD w I) ds ys → All2 (RD w I') ds ys
 | [],ys,_,h=>by rw [All2.nil_l] at h ⊢;exact h
 | d :: ds,y :: ys,hf,h=>by
  simp only [List.all_cons,Bool.and_eq_true] at hf
  exact ⟨flat_rd hf.1 h.1,flat_rds hf.2 h.2⟩
 | _ :: _,[],_,h=>h.elim
def AgreeR (Γ Γ':G) (ρ:Nat → Nat) (k:Nat):Prop:=ρ k < Γ'.n∧Γ'.β (ρ k)=Γ.β k∧Γ'.cap (ρ k)=Γ.cap k
theorem RE.ren {w:World} {Γ Γ':G} {ρ:Nat → Nat} {e:E} {y:Value} (h:RE w Γ e y) (hs:flatE e=true∨∀ b,Γ.I b → Γ'.I b) (hk:∀ k ∈ e.keys,AgreeR Γ Γ' ρ k):RE w Γ' (e.ren ρ) y:=by
 have hst:(∀ b,Γ.I b → Γ'.I b) → Stay w Γ.I w Γ'.I:=fun hs=>⟨Nat.le_refl _,fun _ _ _=>rfl,hs⟩
 cases e with
 | v x=>exact h
 | sl sz l=>rcases hs with hs|hs;cases hs;exact RD.stay (hst hs) _ _ h
 | full sz l=>rcases hs with hs|hs;cases hs;exact ⟨RD.stay (hst hs) _ _ h.1,h.2⟩
 | own k n =>
  obtain ⟨h1,h2,h3⟩:=hk k (by simp [E.keys])
  refine ⟨h1,?_⟩
  have:=h.2
  unfold OwnRep at *
  rwa [h2,h3]
 | ptr k f =>
  obtain ⟨h1,h2,h3⟩:=hk k (by simp [E.keys])
  exact ⟨h1,by rw [h2];exact h.2⟩
 | row cs =>
  rcases hs with hs|hs
  ·cases hs
  ·obtain ⟨b,o,xs,h1,h2,h3,h4,h5⟩:=h
   exact ⟨b,o,xs,h1,hs b h2,h3,h4,h5.mono fun _ _=>RD.stay (hst hs) _ _⟩
 | orow k sz i f =>
  obtain ⟨h1,h2,h3⟩:=hk k (by simp [E.keys])
  exact ⟨h1,by rw [h2];exact h.2⟩
 | fn f ds cap =>
  obtain ⟨xs,h1,h2,h3⟩:=h
  refine ⟨xs,?_,fun hb=>?_,fun k hk'=>?_⟩
  ·rw [h1,List.map_map]
   congr 1
   exact List.map_congr_left fun k hk'=>by unfold keyVal;simp only [Function.comp];rw [(hk k hk').2.1]
  ·rcases hs with hs|hs
   ·exact flat_rds hs (h2 hb)
   ·exact (h2 hb).mono fun _ _=>RD.stay (hst hs) _ _
  ·obtain ⟨k',h4,rfl⟩:=List.mem_map.1 hk'
   exact (hk k' h4).1
 | mp k =>
  obtain ⟨h1,h2,h3⟩:=hk k (by simp [E.keys])
  exact ⟨h1,by rw [h2];exact h.2⟩
 | seg k sz lo n =>
  obtain ⟨h1,h2,h3⟩:=hk k (by simp [E.keys])
  refine ⟨h1,?_⟩
  have:=h.2
  unfold SegRep at *
  rwa [h2,h3]
 | any=>exact h
theorem re_ren {w:World} {Γ Γ':G} {ρ:Nat → Nat} {cs:List E} {ys:List Value} (h:All2 (RE w Γ) cs ys) (hs:cs.all flatE=true∨∀ b,Γ.I b → Γ'.I b) (hk:∀ k ∈ cs.flatMap E.keys,AgreeR Γ Γ' ρ k):All2 (RE w Γ') (cs.map (E.ren ρ)) ys :=
 All2.map_l.2 (h.mono_mem fun e y he hr=>hr.ren (by rcases hs with hs|hs;exact .inl (List.all_eq_true.1 hs e he);exact .inr hs) fun k hk'=>hk k (List.mem_flatMap.2 ⟨e,he,hk'⟩))
theorem RP.ren {w:World} {Γ Γ':G} {ρ:Nat → Nat}:∀ {q:PV} {y:Value},RP w Γ q y → (flatP q=true∨∀ b,Γ.I b → Γ'.I b) → (∀ k ∈ q.keys,AgreeR Γ Γ' ρ k) → RP w Γ' (q.ren ρ) y
 | .c e,y,h,hs,hk=>RE.ren h hs hk
 | .agg cs,y,⟨xs,h1,h2⟩,hs,hk=>⟨xs,h1,re_ren h2 hs hk⟩
 | .undef,y,h,_,_=>h
 | .two x z,y,⟨u,v,h1,h2,h3⟩,hs,hk =>
  ⟨u,v,h1,RP.ren h2 (by rcases hs with hs|hs;simp only [flatP,Bool.and_eq_true] at hs;exact .inl hs.1;exact .inr hs) fun k hk'=>hk k (by simp [PV.keys,hk']),
   RP.ren h3 (by rcases hs with hs|hs;simp only [flatP,Bool.and_eq_true] at hs;exact .inl hs.2;exact .inr hs) fun k hk'=>hk k (by simp [PV.keys,hk'])⟩
 | .three x z t,y,⟨u,v,r,h1,h2,h3,h4⟩,hs,hk =>
  ⟨u,v,r,h1,RP.ren h2 (by rcases hs with hs|hs;simp only [flatP,Bool.and_eq_true] at hs;exact .inl hs.1.1;exact .inr hs) fun k hk'=>hk k (by simp [PV.keys,hk']),
   RP.ren h3 (by rcases hs with hs|hs;simp only [flatP,Bool.and_eq_true] at hs;exact .inl hs.1.2;exact .inr hs) fun k hk'=>hk k (by simp [PV.keys,hk']),
   RP.ren h4 (by rcases hs with hs|hs;simp only [flatP,Bool.and_eq_true] at hs;exact .inl hs.2;exact .inr hs) fun k hk'=>hk k (by simp [PV.keys,hk'])⟩
theorem RO.ren {w:World} {Γ Γ':G} {ρ:Nat → Nat} {k:Nat} {o:Ob} (h:RO w Γ k o) (hs:flatO o=true∨∀ b,Γ.I b → Γ'.I b) (ha:∀ j,j < Γ.n → AgreeR Γ Γ' ρ j) (hk:k < Γ.n):RO w Γ' (ρ k) (o.ren ρ):=by
 obtain ⟨_,h2,h3⟩:=ha k hk
 cases o with
 | box ty cs =>
  obtain ⟨h0,xs,h4,h5,h6⟩:=h
  exact ⟨by rw [h3];exact h0,xs,by rw [h2];exact h4,re_ren h5 hs (fun j hj=>ha j (re_lt h5 j hj)),by unfold Room;rw [h3];exact h6⟩
 | arr el sz rows =>
  obtain ⟨h4,h5,h6,h7⟩:=h
  refine ⟨h4,h5,by rw [h3];exact h6,fun hc=>?_⟩
  rw [h3] at hc ⊢
  obtain ⟨cur,g1,g2,g3,g4,g5⟩:=h7 hc
  refine ⟨cur,by rw [h2];exact g1,g2,g3,g4,?_⟩
  rcases hs with hs|hs
  ·refine flat_rds ?_ g5
   simp only [flatO,List.all_eq_true] at hs
   rw [List.all_eq_true]
   intro d hd
   obtain ⟨r,hr,hd'⟩:=List.mem_flatten.1 hd
   exact hs r hr d hd'
  ·exact g5.mono fun _ _=>RD.stay ⟨Nat.le_refl _,fun _ _ _=>rfl,hs⟩ _ _
 | map kk ag es =>
  obtain ⟨h0,ms,ck,h4,h5⟩:=h
  refine ⟨by rw [h3];exact h0,ms,ck,by rw [h2];exact h4,?_⟩
  rcases hs with hs|hs
  ·refine h5.stay' fun e he d hd y hr=>flat_rd ?_ hr
   simp only [flatO,List.all_eq_true] at hs
   exact hs e he d hd
  ·exact h5.stay ⟨Nat.le_refl _,fun _ _ _=>rfl,hs⟩
 | loop l L t =>
  obtain ⟨h0,h1,tm,h4,h5,h6⟩:=h
  refine ⟨by rw [h3];exact h0,by rw [h2];exact h1,tm,h4,h5,fun i q hq=>?_⟩
  rw [look_ren] at hq
  obtain ⟨q0,hq0,rfl⟩:=Option.map_eq_some_iff.1 hq
  obtain ⟨i1,i2⟩:=h6 i q0 hq0
  refine ⟨i1,i2.ren ?_ fun k hk=>ha k (i2.lt k hk)⟩
  rcases hs with hs|hs
  ·cases hs
  ·exact .inr hs
def rho (ks:List Nat) (n:Nat) (j:Nat):Nat:=if j < ks.length then ks.getD j 0 else n+(j - ks.length)
def putBack (ρ:Nat → Nat):List Ob → List Nat → List Ob → List Ob
 | os,[],r=>os++r.map (Ob.ren ρ)
 | os,k :: ks,o :: r=>putBack ρ (os.set k (o.ren ρ)) ks r
 | os,_ :: _,[]=>os
theorem putBack_length (ρ:Nat → Nat):∀ (ks:List Nat) (os r:List Ob),ks.length≤r.length → (putBack ρ os ks r).length=os.length+(r.length - ks.length)
 | [],os,r,_=>by simp [putBack]
 | k :: ks,os,[],h=>by simp at h
 | k :: ks,os,o :: r,h=>by
  simp only [putBack]
  rw [putBack_length ρ ks _ r (by simpa using h)]
  simp
theorem putBack_get (ρ:Nat → Nat):∀ (ks:List Nat) (os r:List Ob) (i:Nat) (o:Ob),ks.Nodup → (∀ k ∈ ks,k < os.length) → ks.length≤r.length → (putBack ρ os ks r)[i]? = some o →
  (∃ j:Nat,ks[j]? = some i∧∃ o',r[j]? = some o'∧o=o'.ren ρ)∨(i < os.length∧i ∉ ks∧os[i]? = some o)∨(os.length≤i∧∃ o',r[ks.length+(i - os.length)]? = some o'∧o=o'.ren ρ)
 | [],os,r,i,o,_,_,_,h=>by
  simp only [putBack] at h
  rcases Nat.lt_or_ge i os.length with hi|hi
  ·rw [List.getElem?_append_left hi] at h
   exact .inr (.inl ⟨hi,by simp,h⟩)
  ·rw [List.getElem?_append_right hi,List.getElem?_map] at h
   obtain ⟨o',h1,h2⟩:=Option.map_eq_some_iff.1 h
   exact .inr (.inr ⟨hi,o',by simpa using h1,h2.symm⟩)
 | k :: ks,os,[],i,o,_,_,hl,_=>by simp at hl
 | k :: ks,os,q :: r,i,o,hnd,hk,hl,h=>by
  simp only [putBack] at h
  have hnd':=List.nodup_cons.1 hnd
  rcases putBack_get ρ ks (os.set k (q.ren ρ)) r i o hnd'.2 (fun k' hk'=>by rw [List.length_set];exact hk k' (by simp [hk'])) (by simpa using hl) h with ⟨j,h1,o',h2,h3⟩|⟨h1,h2,h3⟩|⟨h1,o',h2,h3⟩
  ·exact .inl ⟨j+1,by simpa using h1,o',by simpa using h2,h3⟩
  ·rw [List.length_set] at h1
   by_cases e:k=i
   ·subst e
    rw [List.getElem?_set_self h1] at h3
    cases h3
    exact .inl ⟨0,by simp,q,by simp,rfl⟩
   ·rw [List.getElem?_set_ne e] at h3
    exact .inr (.inl ⟨h1,by simp only [List.mem_cons,not_or];exact ⟨fun h=>e h.symm,h2⟩,h3⟩)
  ·rw [List.length_set] at h1 h2
   refine .inr (.inr ⟨h1,o',?_,h3⟩)
   rw [List.length_cons,show ks.length+1+(i - os.length)=(ks.length+(i - os.length))+1 by omega]
   simpa using h2
def backG (ks:List Nat) (Γ Γ':G) (z:Nat):G :=
 ⟨Γ.n+(Γ'.n - ks.length),fun i=>if i < Γ.n then Γ.β i else Γ'.β (ks.length+(i - Γ.n)),fun i=>if i < Γ.n then Γ.cap i else Γ'.cap (ks.length+(i - Γ.n)),fun b=>Γ.I b∨(Γ'.I b∧z≤b)⟩
theorem absorb {N p:Nat} {v:Bool} {ks:List Nat} {Γ Γ':G} {s:S} {a:Act} {w w':World} {os':List Ob} {r:PV} {y:Value} (hA:Stands N p Γ s a w) (hks:∀ k ∈ ks,k < Γ.n) (hnd:ks.Nodup) (hlen:ks.length≤os'.length)
  (hm:MemOk Γ' os' w') (hg:Grow ks.length (seeG v ks Γ) w Γ' w') (hr:RP w' Γ' r y) (hfl:v=true → flatP r=true∧os'.all flatO=true) :
  Stands N p (backG ks Γ Γ' w.heap.size) ⟨s.t,putBack (rho ks s.o.length) s.o ks os'⟩ a w'∧RP w' (backG ks Γ Γ' w.heap.size) (r.ren (rho ks s.o.length)) y∧Grow p Γ w (backG ks Γ Γ' w.heap.size) w':=by
 have hn:=hA.inv.m.n
 obtain ⟨Γb,hΓb⟩:∃ Γb,Γb=backG ks Γ Γ' w.heap.size:=⟨_,rfl⟩
 rw [← hΓb]
 have q1:Γb.n=Γ.n+(Γ'.n - ks.length):=by rw [hΓb];rfl
 have q2:∀ i,i < Γ.n → Γb.β i=Γ.β i∧Γb.cap i=Γ.cap i:=fun i hi=>by rw [hΓb];simp [backG,hi]
 have q3:∀ i,Γ.n≤i → Γb.β i=Γ'.β (ks.length+(i - Γ.n))∧Γb.cap i=Γ'.cap (ks.length+(i - Γ.n)):=fun i hi=>by rw [hΓb];simp [backG,Nat.not_lt.2 hi]
 have q4:∀ b,Γb.I b ↔ (Γ.I b∨(Γ'.I b∧w.heap.size≤b)):=fun b=>by rw [hΓb];exact Iff.rfl
 have hgetk:∀ j,j < ks.length → ks.getD j 0 ∈ ks:=fun j hj=>by simp only [List.getD,List.getElem?_eq_getElem hj,Option.getD_some];exact List.getElem_mem _
 have hkeep:∀ j,j < ks.length → Γ'.β j=Γ.β (ks.getD j 0)∧Γ'.cap j=Γ.cap (ks.getD j 0):=fun j hj=>hg.keep j hj
 have hmc:∀ b,Mine (seeG v ks Γ) b → ∃ k ∈ ks,0 < Γ.cap k∧Γ.β k=b:=by
  rintro b ⟨j,h1,h2,h3⟩
  exact ⟨ks.getD j 0,hgetk j h1,h2,h3⟩
 have hm':∀ b,Mine (seeG v ks Γ) b → Mine Γ b:=fun b hb=>by
  obtain ⟨k,h1,h2,h3⟩:=hmc b hb
  exact ⟨k,hks k h1,h2,h3⟩
 have hnew:∀ j,ks.length≤j → j < Γ'.n → 0 < Γ'.cap j → w.heap.size≤Γ'.β j:=by
  intro j hj hj' hc
  rcases hg.new j hj' hc with h1|h1
  ·exfalso
   obtain ⟨i,h2,h3,h4⟩:=h1
   have h2':i < ks.length:=h2
   have h5:=hg.keep i h2'
   have:=hm.sep i j (by rw [hm.n];omega) hj' (by rw [h5.2];exact h3) hc (by rw [h5.1];exact h4)
   omega
  ·exact h1
 have hs:Stay w Γ.I w' Γb.I:=⟨hg.ext.size,fun b hb hl=>hg.ext.block b hl fun hM=>by obtain ⟨k,h1,h2,h3⟩:=hmc b hM;exact hA.inv.m.off k (hks k h1) h2 (h3 ▸ hb),fun b hb=>(q4 b).2 (.inl hb)⟩
 have hag:∀ i,i < Γ.n → Agree Γ Γb i:=fun i hi=>⟨by rw [q1];omega,(q2 i hi).1,(q2 i hi).2⟩
 have hagr:∀ j,j < Γ'.n → AgreeR Γ' Γb (rho ks s.o.length) j:=by
  intro j hj
  unfold AgreeR rho
  by_cases hjk:j < ks.length
  ·rw [if_pos hjk]
   have hk:=hks _ (hgetk j hjk)
   exact ⟨by rw [q1];omega,by rw [(q2 _ hk).1,(hkeep j hjk).1],by rw [(q2 _ hk).2,(hkeep j hjk).2]⟩
  ·rw [if_neg hjk]
   have e:Γ.n≤s.o.length+(j - ks.length):=by omega
   have e2:ks.length+(s.o.length+(j - ks.length) - Γ.n)=j:=by omega
   exact ⟨by rw [q1];omega,by rw [(q3 _ e).1,e2],by rw [(q3 _ e).2,e2]⟩
 have hIs:v=false → ∀ b,Γ'.I b → Γb.I b:=by
  intro hv b hb
  rw [q4]
  rcases hg.imm b hb with h1|h1|h1
  ·rcases h1 with h1|⟨h1,_⟩
   ·exact .inl h1
   ·rw [hv] at h1;cases h1
  ·exfalso
   obtain ⟨i,h2,h3,h4⟩:=h1
   have h5:=hg.keep i h2
   refine hm.off i (by rw [hm.n];have h2':i < ks.length:=h2;omega) (by rw [h5.2];exact h3) ?_
   rw [h5.1,h4];exact hb
  ·exact .inr ⟨hb,h1⟩
 have hfl':∀ {b:Bool},(v=true → b=true) → (b=true∨∀ b',Γ'.I b' → Γb.I b'):=fun h=>by
  cases v with
  | true=>exact .inl (h rfl)
  | false=>exact .inr (hIs rfl)
 have hlt:∀ b,Γb.I b → b < w'.heap.size:=fun b hb=>by
  rcases (q4 b).1 hb with h1|⟨h1,_⟩
  ·exact Nat.lt_of_lt_of_le (hA.inv.m.lt b h1) hg.ext.size
  ·exact hm.lt b h1
 refine ⟨⟨⟨hA.inv.size,hA.inv.defers,fun i q hq=>⟨(hA.inv.t i q hq).1,(hA.inv.t i q hq).2.stay hs fun k hk=>hag k ((hA.inv.t i q hq).2.lt k hk)⟩,⟨?_,fun i o ho=>?_,fun i i' hi hi' hc hc' he=>?_,fun i hi hc=>?_,hlt,⟨hm.pin.1,fun b hb=>(q4 b).2 (.inl (hA.inv.m.pin.2 b hb))⟩⟩⟩,by rw [q1];have:=hA.le;omega⟩,?_,⟨hg.ext.mono hm',fun b hb=>(q4 b).2 (.inl hb),fun i hi hc=>?_,fun b hb=>?_,fun i hi=>q2 i (by have:=hA.le;omega)⟩⟩
 ·rw [q1,putBack_length _ _ _ _ hlen,← hn,hm.n]
 ·rcases putBack_get _ ks s.o os' i o hnd (fun k hk=>by rw [← hn];exact hks k hk) hlen ho with ⟨j,h1,o',h2,rfl⟩|⟨h1,h2,h3⟩|⟨h1,o',h2,rfl⟩
  ·have hj:j < ks.length:=(List.getElem?_eq_some_iff.1 h1).1
   have hj':j < Γ'.n:=by rw [hm.n];exact (List.getElem?_eq_some_iff.1 h2).1
   have:=(hm.ob j o' h2).ren (ρ:=rho ks s.o.length) (Γ':=Γb) (hfl' fun hv=>List.all_eq_true.1 (hfl hv).2 o' (List.mem_of_getElem? h2)) hagr hj'
   have e:rho ks s.o.length j=i:=by unfold rho;rw [if_pos hj];simp [List.getD,h1]
   rwa [e] at this
  ·have hi:i < Γ.n:=by rw [hn];exact h1
   refine (hA.inv.m.ob i o h3).stay hs hag hi fun hc=>hg.ext.block _ (mine_lt hA.inv.m hi hc) fun hM=>?_
   obtain ⟨k,h4,h5,h6⟩:=hmc _ hM
   have:=hA.inv.m.sep k i (hks k h4) hi h5 hc h6
   subst this
   exact h2 h4
  ·have hj':ks.length+(i - s.o.length) < Γ'.n:=by rw [hm.n];exact (List.getElem?_eq_some_iff.1 h2).1
   have:=(hm.ob _ o' h2).ren (ρ:=rho ks s.o.length) (Γ':=Γb) (hfl' fun hv=>List.all_eq_true.1 (hfl hv).2 o' (List.mem_of_getElem? h2)) hagr hj'
   have e:rho ks s.o.length (ks.length+(i - s.o.length))=i:=by unfold rho;rw [if_neg (by omega)];omega
   rwa [e] at this
 ·rw [q1] at hi hi'
  rcases Nat.lt_or_ge i Γ.n with h1|h1<;>rcases Nat.lt_or_ge i' Γ.n with h2|h2
  ·rw [(q2 i h1).2] at hc;rw [(q2 i' h2).2] at hc';rw [(q2 i h1).1,(q2 i' h2).1] at he
   exact hA.inv.m.sep i i' h1 h2 hc hc' he
  ·rw [(q2 i h1).2] at hc;rw [(q3 i' h2).2] at hc';rw [(q2 i h1).1,(q3 i' h2).1] at he
   have a1:=mine_lt hA.inv.m h1 hc
   have a2:=hnew _ (by omega) (by omega) hc'
   omega
  ·rw [(q3 i h1).2] at hc;rw [(q2 i' h2).2] at hc';rw [(q3 i h1).1,(q2 i' h2).1] at he
   have a1:=mine_lt hA.inv.m h2 hc'
   have a2:=hnew _ (by omega) (by omega) hc
   omega
  ·rw [(q3 i h1).2] at hc;rw [(q3 i' h2).2] at hc';rw [(q3 i h1).1,(q3 i' h2).1] at he
   have:=hm.sep _ _ (by omega) (by omega) hc hc' he
   omega
 ·rw [q1] at hi
  rw [q4]
  rcases Nat.lt_or_ge i Γ.n with h1|h1
  ·rw [(q2 i h1).2] at hc
   rw [(q2 i h1).1]
   rintro (h2|⟨_,h2⟩)
   ·exact hA.inv.m.off i h1 hc h2
   ·have:=mine_lt hA.inv.m h1 hc;omega
  ·rw [(q3 i h1).2] at hc
   rw [(q3 i h1).1]
   have a2:=hnew _ (by omega) (by omega) hc
   rintro (h2|⟨h2,_⟩)
   ·have:=hA.inv.m.lt _ h2;omega
   ·exact hm.off _ (by omega) hc h2
 ·exact hr.ren (hfl' fun hv=>(hfl hv).1) fun k hk=>hagr k (hr.lt k hk)
 ·rw [q1] at hi
  rcases Nat.lt_or_ge i Γ.n with h1|h1
  ·rw [(q2 i h1).2] at hc
   rw [(q2 i h1).1]
   exact .inl ⟨i,h1,hc,rfl⟩
  ·rw [(q3 i h1).2] at hc
   rw [(q3 i h1).1]
   exact .inr (hnew _ (by omega) (by omega) hc)
 ·rcases (q4 b).1 hb with h1|⟨_,h1⟩
  ·exact .inl h1
  ·exact .inr (.inr h1)
end Go.Proofs.YthhfpcbpiphfiaaGreatDoor
