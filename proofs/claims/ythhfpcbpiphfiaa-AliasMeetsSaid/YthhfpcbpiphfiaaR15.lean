/- What the program computes, and the plain laws of it, part 15. -/
import Derived.DeepKeys4
import Derived.WideKeyEntry
import Derived.Test.YthhfpcbpiphfiaaR14
namespace Go.Proofs.Ythhfpcbpiphfiaa
open Go.RowKit
open IntWalk renaming iteOmega → iO, toNatUp → tN
set_option linter.unusedVariables false
set_option linter.unusedSimpArgs false
structure WKey (P:Program) (kt:TypeId) (n:Nat):Prop where
 law:WideMaps.KeyLaw P kt
 key:∀ ns:List Int,ns.length=n → (∀ x ∈ ns,-9223372036854775808≤x∧x≤9223372036854775807) → ∃ l,keyOf P kt (MK.t ns).v=some l
def GoodK (n:Nat) (k:MK):Prop:=∃ ns:List Int,k = .t ns∧ns.length=n∧∀ x ∈ ns,-9223372036854775808≤x∧x≤9223372036854775807
theorem GoodK.kind {n:Nat} {k:MK} (h:GoodK n k):k.kind=some (.wide n):=by
 obtain ⟨ns,rfl,rfl,_⟩:=h
 rfl
theorem GoodK.key {P:Program} {kt:TypeId} {n:Nat} (W:WKey P kt n) {k:MK} (h:GoodK n k):∃ l,keyOf P kt k.v=some l:=by
 obtain ⟨ns,rfl,h1,h2⟩:=h
 exact W.key ns h1 h2
theorem int_list_inj:∀ {a b:List Int},a.map (Value.int .i64)=b.map (Value.int .i64) → a=b
 | [],[],_=>rfl
 | [],_ :: _,h=>by cases h
 | _ :: _,[],h=>by cases h
 | x :: a,y :: b,h=>by
  simp only [List.map_cons,List.cons.injEq,Value.int.injEq,true_and] at h
  rw [h.1,int_list_inj h.2]
theorem GoodK.inj {n:Nat} {a b:MK} (ha:GoodK n a) (hb:GoodK n b) (h:a.v=b.v):a=b:=by
 obtain ⟨x,rfl,_,_⟩:=ha
 obtain ⟨y,rfl,_,_⟩:=hb
 simp only [MK.v,Value.agg.injEq] at h
 have h2:x.map (Value.int .i64)=y.map (Value.int .i64):=by simpa using h
 rw [int_list_inj h2]
theorem mget_no {key:MK}:∀ {es:List (MK × List D)},key ∉ es.map (·.1) → mget es key=none∧∀ r,mput es key r=es++[(key,r)]
 | [],_=>⟨rfl,fun _=>rfl⟩
 | (a,x) :: es,h=>by
  simp only [List.map_cons,List.mem_cons,not_or] at h
  obtain ⟨h1,h2⟩:=mget_no h.2
  have hne:¬ a=key:=fun e=>h.1 e.symm
  exact ⟨by rw [mget,if_neg hne];exact h1,fun r=>by rw [mput,if_neg hne,h2];rfl⟩
theorem mget_at {key:MK}:∀ {es:List (MK × List D)} {j:Nat} {e:MK × List D},es[j]? = some e → e.1=key → (es.map (·.1)).Nodup → mget es key=some e.2∧∀ r,mput es key r=es.set j (key,r)
 | [],j,e,h,_,_=>by simp at h
 | (a,x) :: es,0,e,h,he,hn=>by
  simp at h
  subst h
  exact ⟨by rw [mget,if_pos he],fun r=>by rw [mput,if_pos he,← he];rfl⟩
 | (a,x) :: es,j+1,e,h,he,hn=>by
  simp only [List.map_cons,List.nodup_cons] at hn
  have h':es[j]? = some e:=by simpa using h
  obtain ⟨h1,h2⟩:=mget_at h' he hn.2
  have hne:¬ a=key:=fun e2=>hn.1 (List.mem_map.2 ⟨e,List.mem_of_getElem? h',by rw [he,e2]⟩)
  exact ⟨by rw [mget,if_neg hne];exact h1,fun r=>by rw [mput,if_neg hne,h2];rfl⟩
theorem all2_l {α β:Type} {R:α → β → Prop}:∀ {l:List α} {m:List β} {i:Nat} {a:α},All2 R l m → l[i]? = some a → ∃ b,m[i]? = some b∧R a b
 | [],_,i,a,_,h=>by simp at h
 | x :: l,m,i,a,h,ha=>by
  obtain ⟨b,m',rfl,h1,h2⟩:=All2.cons_l.1 h
  cases i with
  | zero=>simp at ha;subst ha;exact ⟨b,rfl,h1⟩
  | succ i =>
   obtain ⟨c,h3,h4⟩:=all2_l h2 (by simpa using ha)
   exact ⟨c,by simpa using h3,h4⟩
theorem all2_r {α β:Type} {R:α → β → Prop}:∀ {l:List α} {m:List β} {i:Nat} {b:β},All2 R l m → m[i]? = some b → ∃ a,l[i]? = some a∧R a b
 | [],m,i,b,h,hb=>by
  rw [All2.nil_l] at h
  subst h
  simp at hb
 | x :: l,m,i,b,h,hb=>by
  obtain ⟨c,m',rfl,h1,h2⟩:=All2.cons_l.1 h
  cases i with
  | zero=>simp at hb;subst hb;exact ⟨x,rfl,h1⟩
  | succ i =>
   obtain ⟨a,h3,h4⟩:=all2_r h2 (by simpa using hb)
   exact ⟨a,by simpa using h3,h4⟩
theorem nodup_at {α:Type} {l:List α} {i j:Nat} {a:α} (h:l.Nodup) (hi:l[i]? = some a) (hj:l[j]? = some a):i=j:=by
 obtain ⟨h1,e1⟩:=List.getElem?_eq_some_iff.1 hi
 obtain ⟨h2,e2⟩:=List.getElem?_eq_some_iff.1 hj
 rw [List.Nodup,List.pairwise_iff_getElem] at h
 rcases Nat.lt_trichotomy i j with h3|h3|h3
 ·exact absurd (e1.trans e2.symm) (h i j h1 h2 h3)
 ·exact h3
 ·exact absurd (e2.trans e1.symm) (h j i h2 h1 h3)
theorem find_wk {P:Program} {kt:TypeId} {n:Nat} (W:WKey P kt n) {w:World} {I:Nat → Prop} {ag:Bool} {key:MK} (hk:GoodK n key) {es:List (MK × List D)} {ms:List MapEntry}
  (hr:All2 (fun e m=>m.key=e.1.v∧RV w I ag e.2 m.val) es ms) (hes:∀ e ∈ es,GoodK n e.1) (hnd:(es.map (·.1)).Nodup) :
  (mget es key=none∧(∀ r,mput es key r=es++[(key,r)])∧key ∉ es.map (·.1)∧∀ w':World,(Instr.findKey kt key.v ms).run P w' = .ok none w') ∨
  ∃ j e m,es[j]? = some e∧ms[j]? = some m∧e.1=key∧m.key=key.v∧mget es key=some e.2∧(∀ r,mput es key r=es.set j (key,r))∧RV w I ag e.2 m.val∧∀ w':World,(Instr.findKey kt key.v ms).run P w' = .ok (some (j,m.val)) w':=by
 obtain ⟨l,hl⟩:=hk.key W
 have hms:∀ m ∈ ms,∃ l,keyOf P kt m.key=some l:=by
  intro m hm
  obtain ⟨i,hi,rfl⟩:=List.getElem_of_mem hm
  obtain ⟨e,he,h1,_⟩:=all2_r (i:=i) hr (List.getElem?_eq_getElem hi)
  rw [h1]
  exact (hes e (List.mem_of_getElem? he)).key W
 by_cases hin:key ∈ es.map (·.1)
 ·obtain ⟨e,he,rfl⟩:=List.mem_map.1 hin
  obtain ⟨j,hj,rfl⟩:=List.getElem_of_mem he
  have hje:es[j]? = some es[j]:=List.getElem?_eq_getElem hj
  obtain ⟨m,hm,h1,h2⟩:=all2_l hr hje
  obtain ⟨g1,g2⟩:=mget_at hje rfl hnd
  refine .inr ⟨j,es[j],m,hje,hm,rfl,h1,g1,g2,h2,fun w'=>?_⟩
  rcases W.law.find w' hl ms hms with ⟨_,h⟩|⟨j',m',h3,h4,h5⟩
  ·exact absurd h1 (h m (List.mem_of_getElem? hm))
  ·obtain ⟨e',he',h6,_⟩:=all2_r hr h4
   have hkk:e'.1=es[j].1:=(hes e' (List.mem_of_getElem? he')).inj (hes _ he) (by rw [← h6,h5])
   have hjj:j'=j:=by
    have l1:(es.map (·.1))[j']? = some es[j].1:=by rw [List.getElem?_map,he'];simp [hkk]
    have l2:(es.map (·.1))[j]? = some es[j].1:=by rw [List.getElem?_map,hje];rfl
    exact nodup_at hnd l1 l2
   subst hjj
   rw [hm] at h4
   cases h4
   exact h3
 ·obtain ⟨g1,g2⟩:=mget_no hin
  refine .inl ⟨g1,g2,hin,fun w'=>?_⟩
  rcases W.law.find w' hl ms hms with ⟨h,_⟩|⟨j',m',h3,h4,h5⟩
  ·exact h
  ·obtain ⟨e',he',h6,_⟩:=all2_r hr h4
   exact absurd (List.mem_map.2 ⟨e',List.mem_of_getElem? he',(hes e' (List.mem_of_getElem? he')).inj hk (by rw [← h6,h5])⟩) hin
theorem all2_ints {w:World} {Γ:G}:∀ {ns:List Int} {xs:List Value},All2 (RE w Γ) (ns.map fun n=>E.v (.int .i64 n)) xs → xs=ns.map (Value.int .i64)
 | [],xs,h=>by rw [List.map_nil,All2.nil_l] at h;rw [h];rfl
 | n :: ns,xs,h=>by
  rw [List.map_cons] at h
  obtain ⟨y,ys,rfl,h1,h2⟩:=All2.cons_l.1 h
  rw [all2_ints h2,List.map_cons,h1.1]
section
variable {P:Program} {N p:Nat} {ops:Array Oper} {rest:List Oper} {o:Oper} {s:S} {K:S → Prop}
theorem keyW_ok {Γ:G} {a:Act} {w:World} {x:Operand} {ns:List Int} (h:s.ev x=some (.agg (ns.map fun n=>E.v (.int .i64 n)))) (hI:Inv N Γ s a w):a.eval x=(MK.t ns).v:=by
 obtain ⟨xs,h1,h2⟩:=S.ev_ok h hI
 rw [h1,all2_ints h2]
 rfl
theorem lookW_ok {t kt e:TypeId} {n k:Nat} {x ix:Operand} {ok ag:Bool} {ns:List Int} {es:List (MK × List D)} {z q:PV} {Γ:G} {a:Act} {w:World} (W:WKey P kt n) (ho:o.op = .lookup t x ix ok) (hu:P.underlying t=some (.map kt e))
  (hx:s.ev x=some (.c (.mp k))) (hk:s.o[k]? = some (.map (some (.wide n)) ag es)) (hi:s.ev ix=some (.agg (ns.map fun n=>E.v (.int .i64 n)))) (hkey:GoodK n (.t ns)) (hes:∀ e ∈ es,GoodK n e.1) (hz:zvOf P e=some z) (hq:lkP ag z ok (mget es (.t ns))=some q) (hI:Inv N Γ s a w) :
  ∃ y,RP w Γ q y∧∀ w',Same w w' → (execOp a.eval o).run P w' = .ok (.value y) w':=by
 have hxv:=S.ev_ok hx hI
 have hiv:=keyW_ok hi hI
 obtain ⟨l,hl⟩:=hkey.key W
 obtain ⟨zv,hz1,hz2⟩:=zv_ok hz
 obtain ⟨h0,ms,ck,hb,hM⟩:=hI.m.ob k _ hk
 have hlt:Γ.β k < w.heap.size:=(Array.getElem?_eq_some_iff.1 hb).1
 have hb':∀ w',Same w w' → w'.heap[Γ.β k]? = some (.map ms ck):=fun w' hS=>(hS.block _ hlt).trans hb
 rcases find_wk W hkey hM.rows hes hM.nodup with ⟨g1,g2,g3,g4⟩|⟨j,e0,m0,g1,g2,g3,g4,g5,g6,g7,g8⟩
 ·rw [g1] at hq
  simp only [lkP,Option.some.injEq] at hq
  subst hq
  refine ⟨_,okP_ok (hz1 w Γ),fun w' hS=>?_⟩
  simp [execOp,ho,Instr.lookup,run_underlying hu,hxv.2,MapKept.run_getObj_map (hb' w' hS),hiv,W.law.check w' _ hl,g4,hz2]
 ·rw [g5] at hq
  simp only [lkP] at hq
  obtain ⟨v,hv,rfl⟩:=Option.map_eq_some_iff.1 hq
  refine ⟨_,okP_ok (rowP_ok hv g7),fun w' hS=>?_⟩
  simp [execOp,ho,Instr.lookup,run_underlying hu,hxv.2,MapKept.run_getObj_map (hb' w' hS),hiv,W.law.check w' _ hl,g8]
theorem pl_lookW {t kt e:TypeId} {n k:Nat} {x ix:Operand} {ok ag:Bool} {ns:List Int} {es:List (MK × List D)} {z q:PV} (W:WKey P kt n) (ho:o.op = .lookup t x ix ok) (hg:gd ops s o.guard=some true) (hd:dstOk N o.dst) (hu:P.underlying t=some (.map kt e))
  (hx:s.ev x=some (.c (.mp k))) (hk:s.o[k]? = some (.map (some (.wide n)) ag es)) (hi:s.ev ix=some (.agg (ns.map fun n=>E.v (.int .i64 n)))) (hkey:GoodK n (.t ns)) (hes:∀ e ∈ es,GoodK n e.1) (hz:zvOf P e=some z) (hq:lkP ag z ok (mget es (.t ns))=some q)
  (hK:PL P N p ops rest (s.put o.dst q) K):PL P N p ops (o :: rest) s K :=
 pl_same hg (fun Γ a w hI=>lookW_ok W ho hu hx hk hi hkey hes hz hq hI) hd hK
theorem pl_mkW {t:TypeId} {n:Nat} (ag:Bool) (ho:o.op = .makeMap t none) (hg:gd ops s o.guard=some true) (hd:dstOk N o.dst)
  (hK:PL P N p ops rest (S.put ⟨s.t,s.o++[.map (some (.wide n)) ag []]⟩ o.dst (.c (.mp s.o.length))) K):PL P N p ops (o :: rest) s K:=by
 refine pl_heap (q:=.c (.mp s.o.length)) (os:=s.o++[.map (some (.wide n)) ag []]) hg (fun Γ a w hA=>?_) (by simp) hd hK
 have hI:=hA.inv
 have hE:Ext No w (w.alloc (.map #[] 0)):=(Ext.refl No w).alloc _
 have hS:=Same.of_ext hE
 have hagr:=push_agree Γ w.heap.size 1
 have hn:=hI.m.n
 have hm:MemOk (Γ.push w.heap.size 1) (s.o++[.map (some (.wide n)) ag []]) (w.alloc (.map #[] 0)):=by
  refine hI.m.push hS _ _ _ ⟨by simp [G.push,upd_same],#[],0,?_,?_⟩ (fun _=>Nat.le_refl _)
  ·simp only [G.push,upd_same];exact (MapKept.heap_alloc w _).1
  ·exact ⟨trivial,by simp,by simp,by simp,by simp⟩
 refine ⟨.map (some w.heap.size),w.alloc (.map #[] 0),Γ.push w.heap.size 1,.inl ?_,⟨by simp [G.push,hn],by simp [G.push,← hn,upd_same]⟩,hI.heap hm (hS.stay Γ.I) hagr,grow_push hI.m hE _ _ (fun _=>Nat.le_refl _) hA.le⟩
 simp [execOp,ho,Instr.makeMap]
theorem updW_ok {t kt e:TypeId} {n k:Nat} {m ix x:Operand} {ag:Bool} {ns:List Int} {es:List (MK × List D)} {row:List D} {Γ:G} {a:Act} {w:World} (W:WKey P kt n) (ho:o.op = .mapUpdate t m ix x) (hu:P.underlying t=some (.map kt e))
  (hx:s.ev m=some (.c (.mp k))) (hk:s.o[k]? = some (.map (some (.wide n)) ag es)) (hi:s.ev ix=some (.agg (ns.map fun n=>E.v (.int .i64 n)))) (hkey:GoodK n (.t ns)) (hes:∀ e ∈ es,GoodK n e.1) (hrow:rowOf ag (s.ev x)=some row) (hI:Inv N Γ s a w) :
  HeapOk P N p Γ s a w o .undef (setO s.o k (.map (some (.wide n)) ag (mput es (.t ns) row))):=by
 obtain ⟨hkn,hxv⟩:=S.ev_ok hx hI
 have hiv:=keyW_ok hi hI
 obtain ⟨l,hl⟩:=hkey.key W
 have hrv:=rowOf_ok hrow (fun q hq=>S.ev_ok hq hI)
 obtain ⟨h0,ms,ck,hb,hM⟩:=hI.m.ob k _ hk
 have fin:∀ (ms':Array MapEntry) (ck':Nat),(∀ w' I',Stay w Γ.I w' I' → RM w' I' (some (.wide n)) ag (mput es (.t ns) row) ms'.toList ck') → (Instr.mapUpdate t (a.eval m) (a.eval ix) (a.eval x)).run P w = .ok () { w with heap:=w.heap.setIfInBounds (Γ.β k) (.map ms' ck') } →
   HeapOk P N p Γ s a w o .undef (setO s.o k (.map (some (.wide n)) ag (mput es (.t ns) row))):=by
  intro ms' ck' hR hrun
  have hE:Ext (· = Γ.β k) w { w with heap:=w.heap.setIfInBounds (Γ.β k) (.map ms' ck') }:=ext_setObj hb
  have hs':Stay w Γ.I { w with heap:=w.heap.setIfInBounds (Γ.β k) (.map ms' ck') } Γ.I:=⟨hE.size,fun b hb' hl=>hE.block b hl fun e=>hI.m.off k hkn h0 (e ▸ hb'),fun _ h=>h⟩
  obtain ⟨hm,hs⟩:=hI.m.set_ hkn h0 hE (.map (some (.wide n)) ag (mput es (.t ns) row)) ⟨h0,ms',ck',(MapKept.heap_set hb).1,hR _ _ hs'⟩
  refine ⟨_,_,Γ,.inr ⟨?_,rfl⟩,rfl,hI.heap hm hs (fun j hj=>⟨hj,rfl,rfl⟩),grow_set hkn h0 hE⟩
  simp only [execOp,ho,Sem.run_bind,hrun,Result.andThen_ok,Sem.run_pure]
 rcases find_wk W hkey hM.rows hes hM.nodup with ⟨g1,g2,g3,g4⟩|⟨j,e0,m0,g1,g2,g3,g3',g5,g6,g7,g8⟩
 ·refine fin (ms.push { key:=(MK.t ns).v,val:=a.eval x,born:=ck }) (ck+1) (fun w' I' hs=>?_) ?_
  ·rw [g2,Array.toList_push]
   refine ⟨(hM.stay hs).rows.append ⟨⟨rfl,hrv.stay fun d _ y hy=>RD.stay hs d y hy⟩,trivial⟩,fun e he=>?_,?_,?_,fun b hb=>?_⟩
   ·rcases List.mem_append.1 he with he|he
    ·exact hM.kind e he
    ·simp at he;subst he;exact hkey.kind
   ·rw [List.map_append,List.nodup_append]
    refine ⟨hM.nodup,by simp,?_⟩
    intro a ha b hb
    simp at hb
    subst hb
    intro hab
    exact g3 (hab ▸ ha)
   ·rw [List.map_append,List.pairwise_append]
    refine ⟨hM.born,by simp,fun a ha b hb=>?_⟩
    simp at hb
    subst hb
    exact hM.clock a ha
   ·rw [List.map_append] at hb
    rcases List.mem_append.1 hb with hb|hb
    ·exact Nat.lt_succ_of_lt (hM.clock b hb)
    ·simp at hb;subst hb;exact Nat.lt_succ_self _
  ·simp [Instr.mapUpdate,run_underlying hu,hxv,MapKept.run_getObj_map hb,hiv,W.law.check w _ hl,g4,MapKept.run_setObj_map _ hb]
 ·have hj:ms[j]? = some m0:=by simpa using g2
  refine fin (ms.modify j fun e=>{ e with key:=(MK.t ns).v,val:=a.eval x }) ck (fun w' I' hs=>?_) ?_
  ·have hml:(ms.modify j fun e=>{ e with key:=(MK.t ns).v,val:=a.eval x }).toList=ms.toList.set j { m0 with key:=(MK.t ns).v,val:=a.eval x }:=by
    rw [Array.toList_modify]
    have hj':j < ms.toList.length:=(List.getElem?_eq_some_iff.1 g2).1
    have:ms.toList[j]=m0:=(List.getElem?_eq_some_iff.1 g2).2
    rw [List.modify_eq_set,g2]
    rfl
   have hbs:(ms.toList.set j { m0 with key:=(MK.t ns).v,val:=a.eval x }).map MapEntry.born=ms.toList.map MapEntry.born:=by
    rw [List.map_set]
    exact list_set_self (by rw [List.getElem?_map,g2];rfl)
   rw [hml,g6]
   refine ⟨(hM.stay hs).rows.set_ j ⟨rfl,hrv.stay fun d _ y hy=>RD.stay hs d y hy⟩,fun e he=>?_,?_,by rw [hbs];exact hM.born,by rw [hbs];exact hM.clock⟩
   ·rcases List.mem_or_eq_of_mem_set he with he|rfl
    ·exact hM.kind e he
    ·exact hkey.kind
   ·rw [List.map_set,list_set_self (by rw [List.getElem?_map,g1,← g3];rfl)]
    exact hM.nodup
  ·simp [Instr.mapUpdate,run_underlying hu,hxv,MapKept.run_getObj_map hb,hiv,W.law.check w _ hl,g8,hj,g3',W.law.stays w hl,MapKept.run_setObj_map _ hb]
theorem pl_updW {t kt e:TypeId} {n k:Nat} {m ix x:Operand} {ag:Bool} {ns:List Int} {es:List (MK × List D)} {row:List D} (W:WKey P kt n) (ho:o.op = .mapUpdate t m ix x) (hg:gd ops s o.guard=some true) (hd:dstOk N o.dst) (hu:P.underlying t=some (.map kt e))
  (hx:s.ev m=some (.c (.mp k))) (hk:s.o[k]? = some (.map (some (.wide n)) ag es)) (hi:s.ev ix=some (.agg (ns.map fun n=>E.v (.int .i64 n)))) (hkey:GoodK n (.t ns)) (hes:∀ e ∈ es,GoodK n e.1) (hrow:rowOf ag (s.ev x)=some row)
  (hK:PL P N p ops rest (S.put ⟨s.t,setO s.o k (.map (some (.wide n)) ag (mput es (.t ns) row))⟩ o.dst .undef) K):PL P N p ops (o :: rest) s K :=
 pl_heap hg (fun Γ a w hA=>updW_ok W ho hu hx hk hi hkey hes hrow hA.inv) (by simp [setO]) hd hK
end
theorem GoodK.mput {n:Nat} {es:List (MK × List D)} {k:MK} {r:List D} (h:∀ e ∈ es,GoodK n e.1) (hk:GoodK n k):∀ e ∈ mput es k r,GoodK n e.1:=by
 induction es with
 | nil=>intro e he;simp only [Go.Proofs.Ythhfpcbpiphfiaa.mput,List.mem_singleton] at he;subst he;exact hk
 | cons a es ih =>
  obtain ⟨a1,a2⟩:=a
  intro e he
  rw [Go.Proofs.Ythhfpcbpiphfiaa.mput] at he
  split at he
  ·rcases List.mem_cons.1 he with rfl|he
   ·exact h (a1,a2) (by simp)
   ·exact h e (by simp [he])
  ·rcases List.mem_cons.1 he with rfl|he
   ·exact h (a1,a2) (by simp)
   ·exact ih (fun e he=>h e (by simp [he])) e he
def Tame:Sem Next → Prop
 | .pure (.value _)=>True
 | .pure .skip=>True
 | .pure _=>False
 | .load _ _ k=>∀ v,Tame (k v)
 | .new _ k=>∀ n,Tame (k n)
 | .shape _ k=>∀ s,Tame (k s)
 | .program k=>∀ p,Tame (k p)
 | .choose _ k=>∀ n,Tame (k n)
 | .frozen _ k=>∀ b,Tame (k b)
 | .getObj _ k=>∀ o,Tame (k o)
 | .mark _ k=>Tame k
 | .halt _=>True
 | _=>False
def TameV {α:Type}:Sem α → Prop
 | .pure _=>True
 | .load _ _ k=>∀ v,TameV (k v)
 | .new _ k=>∀ n,TameV (k n)
 | .shape _ k=>∀ s,TameV (k s)
 | .program k=>∀ p,TameV (k p)
 | .choose _ k=>∀ n,TameV (k n)
 | .frozen _ k=>∀ b,TameV (k b)
 | .getObj _ k=>∀ o,TameV (k o)
 | .mark _ k=>TameV k
 | .halt _=>True
 | _=>False
theorem TameV.bind {α β:Type} {f:α → Sem β} (hf:∀ a,TameV (f a)):∀ {s:Sem α},TameV s → TameV (s.bind f)
 | .pure a,_=>hf a
 | .load _ _ k,h=>fun v=>TameV.bind hf (h v)
 | .new _ k,h=>fun n=>TameV.bind hf (h n)
 | .shape _ k,h=>fun s=>TameV.bind hf (h s)
 | .program k,h=>fun p=>TameV.bind hf (h p)
 | .choose _ k,h=>fun n=>TameV.bind hf (h n)
 | .frozen _ k,h=>fun b=>TameV.bind hf (h b)
 | .getObj _ k,h=>fun o=>TameV.bind hf (h o)
 | .mark _ k,h=>TameV.bind (s:=k) hf h
 | .halt _,_=>trivial
theorem TameV.val {f:Value → Next} (hf:∀ a,∃ v,f a = .value v):∀ {s:Sem Value},TameV s → Tame (s.bind fun a=>.pure (f a))
 | .pure a,_=>by
  obtain ⟨v,e⟩:=hf a
  show Tame (.pure (f a))
  rw [e];trivial
 | .load _ _ k,h=>fun v=>TameV.val hf (h v)
 | .new _ k,h=>fun n=>TameV.val hf (h n)
 | .shape _ k,h=>fun s=>TameV.val hf (h s)
 | .program k,h=>fun p=>TameV.val hf (h p)
 | .choose _ k,h=>fun n=>TameV.val hf (h n)
 | .frozen _ k,h=>fun b=>TameV.val hf (h b)
 | .getObj _ k,h=>fun o=>TameV.val hf (h o)
 | .mark _ k,h=>TameV.val (s:=k) hf h
 | .halt _,_=>trivial
theorem tame_pure {a:Next} (h:Tame (.pure a)):(∃ v,a = .value v)∨a = .skip:=by
 cases a with
 | value v=>exact .inl ⟨v,rfl⟩
 | skip=>exact .inr rfl
 | _=>exact h.elim
theorem tame_run {P:Program} (s:Sem Next):∀ {w w':World} {x:Next},Tame s → s.run P w = .ok x w' → Same w w'∧((∃ v,x = .value v)∨x = .skip):=by
 induction s with
 | pure a =>
  intro w w' x h hr
  rw [Sem.run] at hr
  cases hr
  exact ⟨Same.refl _,tame_pure h⟩
 | load m a k ih =>
  intro w w' x h hr
  rw [Sem.run] at hr
  split at hr
  ·exact ih _ (h _) hr
  ·split at hr
   ·exact ih _ (h _) hr
   ·cases hr
 | new o k ih =>
  intro w w' x h hr
  rw [Sem.run] at hr
  obtain ⟨h1,h2⟩:=ih _ (h _) hr
  refine ⟨Same.trans ⟨by simp,fun b hb=>?_⟩ h1,h2⟩
  simp only [Array.getElem?_push]
  rw [if_neg (by omega)]
 | shape r k ih =>
  intro w w' x h hr
  rw [Sem.run] at hr
  exact ih _ (h _) hr
 | program k ih =>
  intro w w' x h hr
  rw [Sem.run] at hr
  exact ih _ (h _) hr
 | choose q k ih =>
  intro w w' x h hr
  rw [Sem.run] at hr
  split at hr
  ·exact ih _ (h _) hr
  ·obtain ⟨h1,h2⟩:=ih _ (h _) hr
   exact ⟨⟨h1.size,h1.block⟩,h2⟩
 | frozen a k ih =>
  intro w w' x h hr
  rw [Sem.run] at hr
  exact ih _ (h _) hr
 | getObj r k ih =>
  intro w w' x h hr
  rw [Sem.run] at hr
  split at hr
  ·cases hr
  ·exact ih _ (h _) hr
  ·cases hr
 | mark m k ih =>
  intro w w' x h hr
  rw [Sem.run] at hr
  exact ih h hr
 | halt h0 =>
  intro w w' x h hr
  rw [Sem.run] at hr
  cases hr
 | _=>intro w w' x h hr;exact h.elim
def appNil (c:Call):Bool:=match c.callee with
 | .builtin .append=>match c.args.toList with
  | [.const (.slice none 0 0),_]=>true
  | _=>false
 | _=>false
def tameOp:Op → Bool
 | .move _=>true
 | .assign _=>true
 | .load .. => true
 | .alloc _=>true
 | .call c=>appNil c
 | _=>false
theorem tame_load (m:Mode) (a:Addr):TameV (Sem.load m a Sem.pure):=fun v=>trivial
theorem tame_cells (a:Addr):∀ (n i:Nat) (acc:Array Value),TameV (loadCellsFrom a i n acc)
 | 0,i,acc=>trivial
 | n+1,i,acc=>TameV.bind (fun v=>tame_cells a n (i+1) _) (tame_load _ _)
theorem tame_info (t:TypeId):TameV (typeInfo t):=TameV.bind (s:=program) (fun p=>by
 cases p.info? t<;>exact trivial) (fun p=>trivial)
theorem tame_under (t:TypeId):TameV (underlying t):=TameV.bind (s:=program) (fun p=>by
 cases p.underlying t<;>exact trivial) (fun p=>trivial)
theorem tame_agg (t:TypeId):TameV (isAgg t):=TameV.bind (fun d=>by cases d<;>exact trivial) (tame_under t)
theorem tame_size (t:TypeId):TameV (sizeOf t):=by
 refine TameV.bind (s:=typeInfo t) ?_ (tame_info t)
 intro i;exact trivial
theorem tame_loadVar (t:TypeId) (a:Addr):TameV (loadVar t a):=by
 refine TameV.bind (s:=isAgg t) ?_ (tame_agg t)
 intro b
 cases b
 ·exact tame_load _ _
 ·refine TameV.bind (s:=sizeOf t) ?_ (tame_size t)
  intro n
  refine TameV.bind (s:=loadCells a n) ?_ (tame_cells a n 0 #[])
  intro x;exact trivial
theorem tame_loadAt (t:TypeId) (v:Value):TameV (Instr.loadAt t v):=by
 refine TameV.bind (s:=Instr.sureAddr v) ?_ ?_
 ·intro a;exact tame_loadVar t a
 ·unfold Instr.sureAddr
  split<;>exact trivial
theorem tame_zero (t:TypeId):TameV (zeroValue t):=by
 refine TameV.bind (s:=typeInfo t) ?_ (tame_info t)
 intro i
 cases i.zero<;>exact trivial
theorem tame_new (t:TypeId) (v:Value):TameV (newVar t v):=by
 refine TameV.bind (s:=newObj (.cells v.cells t)) ?_ (fun n=>trivial)
 intro n;exact trivial
theorem tame_alloc (t:TypeId):TameV (Instr.alloc t true (.tuple #[])):=by
 refine TameV.bind (s:=zeroValue t) ?_ (tame_zero t)
 intro z
 refine TameV.bind (s:=newVar t z) ?_ (tame_new t z)
 intro a;exact trivial
theorem TameV.ite {α:Type} {c:Prop} [Decidable c] {a b:Sem α} (ha:TameV a) (hb:TameV b):TameV (if c then a else b):=by
 by_cases h:c
 ·rw [if_pos h];exact ha
 ·rw [if_neg h];exact hb
theorem tame_run_panic {α:Type} (m:String):TameV (runtimePanic (α:=α) (.error m)):=by
 unfold runtimePanic
 refine TameV.bind (s:=program) ?_ (fun p=>trivial)
 intro p;exact trivial
theorem tame_holds (a:Addr) (n:Nat):TameV (Builtin.holdsCells a n):=by
 unfold Builtin.holdsCells
 refine TameV.bind (s:=shape a.block) ?_ (fun p=>trivial)
 intro o
 split<;>exact trivial
theorem tame_share (size n:Nat) (x:Value):TameV (Builtin.mayShare size 0 n none x):=by
 unfold Builtin.mayShare
 refine TameV.bind ?_ (s:=pure true) trivial
 intro b
 dsimp only
 split
 ·exact trivial
 ·split
  ·refine TameV.bind ?_ (tame_holds _ _)
   intro c;exact trivial
  ·exact trivial
theorem tame_first (size n:Nat) (x:Value):TameV (Builtin.firstCells size n x):=by
 unfold Builtin.firstCells
 split
 ·exact tame_cells _ _ 0 #[]
 ·exact trivial
 ·exact trivial
 ·exact trivial
theorem tame_len (x:Value):TameV (Builtin.lenOf x):=by
 unfold Builtin.lenOf
 split<;>exact trivial
theorem tame_int (x:Value):TameV (asInt x):=by
 unfold asInt
 refine TameV.bind ?_ (s:=asIntOf x) ?_
 ·intro y;exact trivial
 ·unfold asIntOf
  split<;>exact trivial
theorem tv_pure {α:Type} (a:α):TameV (pure a:Sem α):=trivial
theorem tv_uns {α:Type} (u:Unsupported):TameV (unsupported u:Sem α):=trivial
theorem tv_choose (q:Question):TameV (choose q):=fun n=>trivial
theorem tv_mark (m:Mark):TameV (mark m):=trivial
theorem tv_room (n:Nat):TameV (askRoom n):=TameV.ite trivial trivial
theorem tv_row (t:TypeId) (c:Array Value):TameV (newRow t c):=by
 refine TameV.bind (s:=newObj (.cells c t)) ?_ (fun n=>trivial)
 intro n;exact trivial
theorem tame_appd (zr:Bool) (sz n:Nat) (x:Value) (e:TypeId):TameV (if (!zr)=true then Builtin.firstCells sz n x else if n * sz=0 then pure #[] else do pure (Builtin.zeroCells (← zeroValue e).cells n)):=by
 refine TameV.ite (tame_first _ _ _) (TameV.ite trivial ?_)
 refine TameV.bind ?_ (tame_zero _)
 intro z;exact trivial
set_option maxHeartbeats 4000000 in
theorem tame_append (tys:Array TypeId) (t:TypeId) (x:Value):TameV (Builtin.append_ tys t #[.slice none 0 0,x]):=by
 unfold Builtin.append_
 cases tys[0]? with
 | none=>exact trivial
 | some st =>
 simp only [List.getElem?_toArray,List.getElem?_cons_zero,List.getElem?_cons_succ]
 refine TameV.bind ?_ (tame_under _)
 intro d
 split
 case h_2=>exact trivial
 refine TameV.bind ?_ (tame_size _)
 intro sz
 have hz:∀ (b:Bool),TameV (pure b:Sem Bool):=fun b=>trivial
 split
 all_goals repeat' first
  | exact tv_pure _
  | exact tv_uns _
  | exact tame_appd _ _ _ _ _
  | exact tame_run_panic _
  | exact tame_share _ _ _
  | exact tame_first _ _ _
  | exact tame_under _
  | exact tame_info _
  | exact tame_int _
  | exact tame_len _
  | exact tame_zero _
  | exact tv_choose _
  | exact tv_mark _
  | exact tv_room _
  | exact tv_row _ _
  | intro _
  | refine TameV.ite ?_ ?_
  | refine TameV.bind ?_ ?_
  | split
theorem tame_op (ρ:Operand → Value) (o:Oper) (hc:∀ v,ρ (.const v)=v) (h:tameOp o.op=true):Tame (execOp ρ o):=by
 unfold execOp
 cases ho:o.op<;>rw [ho] at h<;>first|cases h|skip
 ·exact trivial
 ·exact trivial
 ·exact TameV.val (fun a=>⟨a,rfl⟩) (tame_alloc _)
 ·exact TameV.val (fun a=>⟨a,rfl⟩) (tame_loadAt _ _)
 ·rename_i c
  obtain ⟨callee,args,tys⟩:=c
  have h:appNil ⟨callee,args,tys⟩=true:=h
  unfold appNil at h
  dsimp only at h
  split at h
  case h_2=>cases h
  split at h
  case h_2=>cases h
  rename_i x hl
  have hargs:args = #[.const (.slice none 0 0),x]:=by
   cases args;simp only at hl;rw [hl]
  subst hargs
  show Tame (Sem.bind (resolve ρ _ o.type) fun d=>invoke d.target d.args)
  unfold resolve
  have hm:Array.map ρ #[.const (.slice none 0 0),x] = #[.slice none 0 0,ρ x]:=by simp [hc]
  dsimp only
  rw [hm]
  exact TameV.val (fun a=>⟨a,rfl⟩) (tame_append _ _ _)
def YI (P:Program) (ops:Array Oper) (o:Oper) (v:Value) (w0:World) (a:Act):Prop :=
 Region.wanted o (yielded ops a.tmps)=true∧(∀ w,Same w0 w → (execOp a.eval o).run P w = .ok (.value v) w)∧∀ w,o.about P w a.eval=none
section
variable {F:Fence} {n:Nat} {P:Program} {ops:Array Oper} {Q:Exit → Act → World → Prop} {md:Region.Mode}
theorem YI.wpOpIn {i:Nat} {o:Oper} {v:Value} {w0:World} {a:Act} (hro:F.round=none) (hi:ops[i]? = some o) (hy:YI P ops o v w0 a)
  {K:Act → World → Prop} {w:World} (hS:Same w0 w) (h:K (a.put o.dst v) w):wpOpIn F n P ops Q i K a w:=by
 unfold Go.wpOpIn
 simp only [hi]
 have hab:∀ f,o.about P w a.eval=some f → F.fn f:=fun f hf=>by rw [hy.2.2 w] at hf;cases hf
 simp only [hy.1,if_true,Oper.wpIn,hro,Oper.semAt_none,hy.2.1 w hS,Oper.uponIn]
 exact ⟨hab,h⟩
theorem YI.of_same {o:Oper} {v:Value} {w0:World} {a a':Act} (hy:YI P ops o v w0 a) (he:execOp a'.eval o=execOp a.eval o)
  (hw:Region.wanted o (yielded ops a'.tmps)=Region.wanted o (yielded ops a.tmps)) (hb:∀ w,o.about P w a'.eval=o.about P w a.eval):YI P ops o v w0 a' :=
 ⟨by rw [hw];exact hy.1,fun w hS=>by rw [he];exact hy.2.1 w hS,fun w=>by rw [hb w];exact hy.2.2 w⟩
theorem wpOpIn_putI {j:Nat} {oi oj:Oper} {v:Value} {w0:World} (hro:F.round=none) (hj:ops[j]? = some oj) (hap:oi.apart ops oj=true) (ht:tameOp oj.op=true)
  (hsi:∀ cs b,oi.op≠.select cs b) (hsj:∀ cs b,oj.op≠.select cs b)
  (hQ:∀ c a w,Q (.panic c) (a.put oi.dst v) w → Q (.panic c) a w) {K:Act → World → Prop} {a:Act} {w:World} (hS:Same w0 w)
  (hy:YI P ops oi v w0 a) (h:wpOpIn F n P ops Q j K (a.put oi.dst v) w) :
  wpOpIn F n P ops Q j (fun a' w'=>(YI P ops oi v w0 a'∧Same w0 w')∧K (a'.put oi.dst v) w') a w:=by
 obtain ⟨h1,h2,h3⟩:=Oper.apart_spec hap
 have keep:∀ (a:Act),YI P ops oi v w0 a → ∀ u,YI P ops oi v w0 (a.put oj.dst u):=fun a hy u =>
  hy.of_same (execOp_put oi hsi a oj.dst u h3) (wanted_put oi a oj.dst u h3) (fun w=>about_put oi w a oj.dst u h3)
 have htm:=tame_op a.eval oj (fun v=>rfl) ht
 unfold wpOpIn at *
 simp only [hj] at *
 rw [wanted_put oj a oi.dst v h1,about_put oj w a oi.dst v h1] at h
 split
 ·rename_i hw
  simp only [hw,if_true] at h
  unfold Oper.wpIn at *
  rw [about_put oj w a oi.dst v h1] at h
  refine ⟨h.1,?_⟩
  have h:=h.2
  rw [hro,Oper.semAt_none,execOp_put oj hsj a oi.dst v h1] at h
  rw [hro,Oper.semAt_none]
  have hrun:∀ x w',(execOp a.eval oj).run P w = .ok x w' → Same w w'∧((∃ v,x = .value v)∨x = .skip):=fun x w' h=>tame_run _ htm h
  generalize (execOp a.eval oj).run P w=r at *
  cases r with
  | ok x w' =>
   obtain ⟨hS2,hx⟩:=hrun x w' rfl
   rcases hx with ⟨u,rfl⟩|rfl
   ·simp only [Oper.uponIn] at h ⊢
    exact ⟨⟨keep a hy u,hS.trans hS2⟩,by rw [← Act.put_comm a v u h2];exact h⟩
   ·simp only [Oper.uponIn] at h ⊢
    exact ⟨⟨keep a hy _,hS.trans hS2⟩,by rw [← Act.put_comm a v undef h2];exact h⟩
  | halt x w' =>
   cases x<;>simp only [Oper.uponIn] at h ⊢
   case panic u=>exact hQ _ _ _ h
 ·rename_i hw
  simp only [hw] at h
  exact ⟨h.1,⟨keep a hy _,hS⟩,by rw [← Act.put_comm a v undef h2];exact h.2⟩
theorem wpAnyIn_firstI {i:Nat} {oi:Oper} {v:Value} {w0:World} (D:Nat → Bool) (hro:F.round=none) (hi:ops[i]? = some oi) (hsel:∀ (j:Nat) (o:Oper) cs b,ops[j]? = some o → o.op≠.select cs b)
  (hQ:∀ c a w,Q (.panic c) (a.put oi.dst v) w → Q (.panic c) a w) (hD:∀ j oj,ops[j]? = some oj → D j=true → ∃ e ∈ oj.after,Region.binds md e=true∧(e.on=i∨D e.on=true)) :
  ∀ (fuel:Nat) (listed:Array Bool) (a:Act) (w:World),Same w0 w → (∀ j,D j=true → listed.getD j false=false) →
   (∀ j oj,ops[j]? = some oj → j≠i → listed.getD j true=false → D j=false → oi.apart ops oj=true∧tameOp oj.op=true) →
   i ∈ Region.ready md ops listed → YI P ops oi v w0 a →
   wpAnyIn F n P md ops Q fuel (listed.setIfInBounds i true) (a.put oi.dst v) w → wpAnyIn F n P md ops Q (fuel+1) listed a w:=by
 intro fuel
 induction fuel with
 | zero =>
  intro listed a w hS _ _ hr hy H
  refine ⟨fun h=>(by rw [h] at hr;cases hr),fun j hj=>?_⟩
  by_cases hji:j=i
  ·subst hji;exact hy.wpOpIn hro hi hS H
  ·have:=ready_mono hj hji
   rw [H.1] at this
   cases this
 | succ fuel ih =>
  intro listed a w hS hun0 hfree hr hy H
  refine ⟨fun h=>(by rw [h] at hr;cases hr),fun j hj=>?_⟩
  by_cases hji:j=i
  ·subst hji;exact hy.wpOpIn hro hi hS H
  ·have h1:=H.2 j (ready_mono hj hji)
   obtain ⟨hjun,oj,hoj,hall⟩:=mem_ready.1 hj
   have hiun:listed.getD i false=true → False:=fun h1=>by
    have h0:=(mem_ready.1 hr).1
    rcases Nat.lt_or_ge i listed.size with h'|h'
    ·simp [h'] at h0 h1;rw [h0] at h1;cases h1
    ·simp [Array.getElem?_eq_none h'] at h1
   have hjD:D j=false:=by
    cases hd:D j with
    | false=>rfl
    | true =>
     obtain ⟨e,he,hb,hon⟩:=hD j oj hoj hd
     have h2:=hall e he hb
     rcases hon with h3|h3
     ·rw [h3] at h2;exact (hiun h2).elim
     ·rw [hun0 _ h3] at h2;cases h2
   obtain ⟨hap,htm⟩:=hfree j oj hoj hji hjun hjD
   have h2:=wpOpIn_putI hro hoj hap htm (fun cs b=>hsel i oi cs b hi) (fun cs b=>hsel j oj cs b hoj) hQ hS hy h1
   have hfree':∀ k ok,ops[k]? = some ok → k≠i → (listed.setIfInBounds j true).getD k true=false → D k=false → oi.apart ops ok=true∧tameOp ok.op=true:=fun k ok hk hki hun hno=>by
    refine hfree k ok hk hki ?_ hno
    by_cases hjk:j=k
    ·subst hjk;exact hjun
    ·rw [Go.getD_set_ne true hjk] at hun;exact hun
   have hun0':∀ k,D k=true → (listed.setIfInBounds j true).getD k false=false:=fun k hk=>by
    have hjk:j≠k:=fun e=>by rw [e] at hjD;rw [hjD] at hk;cases hk
    rw [Go.getD_set_ne false hjk];exact hun0 k hk
   refine wpOpIn_mono (fun a' w' h3=>ih (listed.setIfInBounds j true) a' w' h3.1.2 hun0' hfree' (ready_mono hr (Ne.symm hji)) h3.1.1 ?_) h2
   rw [Array.setIfInBounds_comm _ _ hji]
   exact h3.2
end
theorem load_about {P:Program} {o:Oper} {t:TypeId} {x:Operand} (h:o.op = .load t x) (w:World) (ρ:Operand → Value):o.about P w ρ=none:=by
 unfold Oper.about
 rw [h]
def isLoad (ops:Array Oper) (i:Nat):Bool:=match ops[i]? with
 | some o=>match o.op with
  | .load .. => true
  | _=>false
 | none=>false
def depD (ops:Array Oper) (listed:Array Bool) (i:Nat):List Nat :=
 (List.range ops.size).foldl (fun D j=>if j != i && !listed.getD j true && (match ops[j]? with
  | some o=>o.after.any fun e=>Region.binds .any e && (e.on == i || D.contains e.on)
  | none=>false) then j :: D else D) []
def hoLB (ops:Array Oper) (listed:Array Bool) (i:Nat) (D:List Nat):Bool :=
 Region.noSelect ops && (Region.ready .any ops listed).contains i && isLoad ops i &&
 (D.all fun j=>!listed.getD j false && match ops[j]? with
  | some o=>o.after.any fun e=>Region.binds .any e && (e.on == i || D.contains e.on)
  | none=>false) &&
 (match ops[i]? with
  | none=>false
  | some oi=>(List.range ops.size).all fun j=>j == i || listed.getD j true || D.contains j || match ops[j]? with
   | some oj=>oi.apart ops oj && tameOp oj.op
   | none=>true)
section
variable {P:Program} {N p:Nat} {ops:Array Oper} {s:S} {K:S → Prop} {fuel:Nat} {listed:Array Bool}
def hoLR (P:Program) (N p:Nat) (ops:Array Oper) (fuel:Nat) (listed:Array Bool) (s:S) (K:S → Prop) (i:Nat) (o:Oper):Option Bool → Res → Prop
 | some true,.val q=>dstOk N o.dst∧PA P N p ops fuel (listed.setIfInBounds i true) (s.put o.dst q) K
 | _,_=>False
def hoLG (P:Program) (N p:Nat) (ops:Array Oper) (fuel:Nat) (listed:Array Bool) (s:S) (K:S → Prop) (i:Nat):Option Oper → Prop
 | some o=>hoLR P N p ops fuel listed s K i o (gd ops s o.guard) (run1 P p s o.op)
 | none=>False
theorem pa_hoistL (i:Nat) (hB:hoLB ops listed i (depD ops listed i)=true) (h:hoLG P N p ops fuel listed s K i ops[i]?):PA P N p ops (fuel+1) listed s K:=fun Γ a w Q hA hK=>by
 obtain ⟨D,hDD⟩:∃ D,depD ops listed i=D:=⟨_,rfl⟩
 rw [hDD] at hB
 unfold hoLB at hB
 simp only [Bool.and_eq_true,List.contains_iff_mem] at hB
 obtain ⟨⟨⟨⟨b1,b2⟩,b3⟩,b4⟩,b5⟩:=hB
 cases ho:ops[i]? with
 | none=>rw [ho] at h;exact h.elim
 | some o =>
  rw [ho] at h b5
  change hoLR P N p ops fuel listed s K i o (gd ops s o.guard) (run1 P p s o.op) at h
  obtain ⟨t,x,hld⟩:∃ t x,o.op = .load t x:=by
   unfold isLoad at b3
   rw [ho] at b3
   simp only at b3
   split at b3
   ·rename_i t x e;exact ⟨t,x,e⟩
   ·cases b3
  refine wpAny_nrm ?_
  have hQ:∀ (v:Value) c a' w',nrm Q (.panic c) (a'.put o.dst v) w' → nrm Q (.panic c) a' w':=fun v c a' w' h=>absurd h.1 (by simp)
  unfold hoLR at h
  split at h
  ·rename_i q hg hr
   obtain ⟨hd,hn⟩:=h
   obtain ⟨y,h1,h2⟩:=pval_ok (run1_val hr) hA.inv
   refine wpAnyIn_firstI (w0:=w) (fun j=>D.contains j) rfl ho (Region.noSelect_spec b1) (hQ y) (fun j oj hoj hj=>?_) fuel listed a w (Same.refl _) (fun j hj=>?_) (fun j oj hoj hji hun hj=>?_) b2 ⟨gd_ok hg hA.inv,h2,fun w=>load_about hld w _⟩ ?_
   ·have:=List.all_eq_true.1 b4 j (List.contains_iff_mem.1 hj)
    rw [hoj,Bool.and_eq_true] at this
    obtain ⟨e,he,h5⟩:=Array.any_eq_true'.1 this.2
    simp only [Bool.and_eq_true,Bool.or_eq_true,beq_iff_eq] at h5
    exact ⟨e,he,h5.1,h5.2⟩
   ·have:=List.all_eq_true.1 b4 j (List.contains_iff_mem.1 hj)
    rw [Bool.and_eq_true] at this
    simpa using this.1
   ·have:=List.all_eq_true.1 b5 j (List.mem_range.2 (Array.getElem?_eq_some_iff.1 hoj).1)
    simp only [hoj,Bool.or_eq_true,beq_iff_eq,hji,false_or,hun,Bool.false_eq_true,hj,Bool.and_eq_true] at this
    exact this
   ·exact hn Γ _ w _ ⟨hA.inv.put (dst_lt hd) h1,hA.le⟩ fun s' Γ' a' w' hk ha hg' hd'=>⟨rfl,hK s' Γ' a' w' hk ha hg' (hd'.trans (put_defers _ _ _))⟩
  ·exact h.elim
theorem pal (i:Nat) (h:hoLG P N p ops fuel listed s K i ops[i]?) (hB:hoLB ops listed i (depD ops listed i)=true:=by decide +kernel):PA P N p ops (fuel+1) listed s K:=pa_hoistL i hB h
end
attribute [push_cast] hoLR hoLG
end Go.Proofs.Ythhfpcbpiphfiaa
