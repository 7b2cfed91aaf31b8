/- What the program computes, and the plain laws of it, part 7. -/
import Derived.Test.YthhfpcbpiphfiaaGreatDoorR6
namespace Go.Proofs.YthhfpcbpiphfiaaGreatDoor
open Go.RowKit
open IntWalk renaming iteOmega → iO, toNatUp → tN
set_option linter.unusedVariables false
set_option linter.unusedSimpArgs false
theorem run_append_zero {P:Program} (w:World) (t ty e:TypeId) (i:TypeInfo) (ht:P.underlying t=some (.slice e)) (hi:P.info? e=some i) (A B:Option Addr) (n cap c:Nat) (hn:n≤cap) (hB:B=none → cap=0) :
  (Builtin.append_ #[t,t] ty #[.slice B n cap,.slice A 0 c]).run P w = .ok (.slice B n cap) w:=by
 cases A<;>cases B
 ·have:=hB rfl
  subst this
  have:n=0:=by omega
  subst this
  simp [Builtin.append_,run_underlying ht,sizeOf,typeInfo,hi,Builtin.lenOf,Builtin.firstCells]
 ·simp [Builtin.append_,run_underlying ht,sizeOf,typeInfo,hi,Builtin.lenOf,Builtin.firstCells,hn,storeCells]
 ·have:=hB rfl
  subst this
  have:n=0:=by omega
  subst this
  simp [Builtin.append_,run_underlying ht,sizeOf,typeInfo,hi,Builtin.lenOf,Builtin.firstCells,loadCells,loadCellsFrom]
 ·simp [Builtin.append_,run_underlying ht,sizeOf,typeInfo,hi,Builtin.lenOf,Builtin.firstCells,hn,loadCells,loadCellsFrom,storeCells]
theorem arr_of_own {w:World} {Γ:G} {base:Nat} {e:TypeId} {sz:Nat} {v:Value} {n:Nat} {xs:List Value} {rows:List (List D)} {k:Nat} (h:w.ownsRow base e sz v n xs) (hn:0 < n) (hsz:0 < sz)
  (hr:∀ r ∈ rows,r.length=sz) (hl:rows.length=n) :
  ∃ b c,v = .slice (some ⟨b,0,none⟩) n c∧0 < c∧n≤c∧base≤b∧b < w.heap.size∧v.ownBlock=some b∧(∀ Γ:G,Γ.β k=b → Γ.cap k=c → All2 (RD w Γ.I) rows.flatten xs → RO w Γ k (.arr e sz rows)):=by
 have hlt:=h.lt
 obtain ⟨hxl,h2⟩:=h
 rcases h2 with ⟨rfl,rfl⟩|⟨g,cap,cur,rfl,hb,hg,hnc,hcm,hcs,htk⟩
 ·simp at hxl
  rcases hxl with h0|h0<;>omega
 ·refine ⟨g,cap,rfl,by omega,hnc,hb,(hlt g rfl).2,rfl,fun Γ h1 h2 hx=>⟨hr,hsz,fun h0=>?_,fun _=>⟨cur,?_,by rw [h2];exact hcs,by rw [h2,hl];exact hnc,by rw [h2];exact hcm,by rw [hl,htk];exact hx⟩⟩⟩
  ·rw [h2] at h0;omega
  ·rw [h1];exact hg
theorem slT_of {P:Program} {t e:TypeId} {sz by':Nat} (hel:elOf P t=some (e,sz)) (hby:bytOf P e=some by') (hsz:0 < sz) (hz:(zerOf P e).map List.length=some sz):SlT P t e sz by'∧∃ i,P.underlying t=some (.slice e)∧P.info? e=some i:=by
 obtain ⟨hu,hs⟩:=el_run hel
 obtain ⟨i,hi,hisz⟩:=Option.map_eq_some_iff.1 hs
 obtain ⟨i',hi',hiby⟩:=Option.map_eq_some_iff.1 hby
 rw [hi] at hi'
 cases hi'
 obtain ⟨zs,hzs,hzl⟩:=Option.map_eq_some_iff.1 hz
 obtain ⟨i2,z,hi2,hzz,hzr⟩:=zer_ok hzs
 rw [hi] at hi2
 cases hi2
 refine ⟨⟨hu,⟨i,z,hi,hzz,hisz,hiby,?_⟩,hsz⟩,i,hu,hi⟩
 have:=(hzr (default:World) ⟨0,fun _=>0,fun _=>0,fun _=>False⟩).length
 rw [← hzl,this,Array.length_toList]
def AppOk (P:Program) (N p:Nat) (Γ:G) (s:S) (a:Act) (w:World) (o:Oper) (q:PV) (os:List Ob) (kk:Option Nat):Prop :=
 ∃ y w' Γ',(execOp a.eval o).run P w = .ok (.value y) w'∧RP w' Γ' q y∧Inv N Γ' ⟨match kk with|none=>s.t|some k=>killT k s.t,os⟩ a w'∧Grow p Γ w Γ' w'
theorem app_new {P:Program} {N p:Nat} {Γ:G} {s:S} {a:Act} {w w':World} {o:Oper} {e:TypeId} {sz n:Nat} {v:Value} {xs:List Value} {rows:List (List D)} (hI:Inv N Γ s a w) (hp:p≤Γ.n)
  (hrun:(execOp a.eval o).run P w = .ok (.value v) w') (hE:Ext No w w') (hown:w'.ownsRow w.heap.size e sz v n xs) (hn:0 < n) (hsz:0 < sz) (hr:∀ r ∈ rows,r.length=sz) (hl:rows.length=n) (hx:All2 (RD w' Γ.I) rows.flatten xs) :
  AppOk P N p Γ s a w o (.c (.own s.o.length n)) (s.o++[.arr e sz rows]) none:=by
 obtain ⟨b,c,rfl,hc,hnc,hb,hbl,_,hro⟩:=arr_of_own (k:=Γ.n) (Γ:=Γ) hown hn hsz hr hl
 have hS:=Same.of_ext hE
 have hm:MemOk (Γ.push b c) (s.o++[.arr e sz rows]) w':=hI.m.push hS _ b c (hro (Γ.push b c) (by simp [G.push,upd_same]) (by simp [G.push,upd_same]) hx) (fun _=>hb)
 have hn':=hI.m.n
 refine ⟨_,w',Γ.push b c,hrun,⟨by simp [G.push,hn'],.inr ⟨?_,?_,?_⟩⟩,hI.heap hm (hS.stay Γ.I) (push_agree Γ b c),grow_push hI.m hE b c (fun _=>hb) hp⟩
 ·rw [← hn'];simp [G.push,upd_same,hc]
 ·rw [← hn'];simp [G.push,upd_same]
 ·rw [← hn'];simp [G.push,upd_same,hnc]
theorem app_nil {P:Program} {N p:Nat} {Γ:G} {s:S} {a:Act} {w:World} {o:Oper} {e:TypeId} {sz:Nat} (hI:Inv N Γ s a w) (hp:p≤Γ.n) (hsz:0 < sz) (A:Option Addr) (hrun:(execOp a.eval o).run P w = .ok (.value (.slice A 0 0)) w) :
  AppOk P N p Γ s a w o (.c (.own s.o.length 0)) (s.o++[.arr e sz []]) none:=by
 have hS:=Same.refl w
 have hm:MemOk (Γ.push 0 0) (s.o++[.arr e sz []]) w:=hI.m.push hS _ 0 0 ⟨by simp,hsz,fun _=>rfl,fun h=>absurd h (by simp [G.push,upd_same])⟩ (fun h=>absurd h (by omega))
 have hn':=hI.m.n
 refine ⟨_,w,Γ.push 0 0,hrun,⟨by simp [G.push,hn'],.inl ⟨?_,⟨A,rfl⟩,rfl⟩⟩,hI.heap hm (hS.stay Γ.I) (push_agree Γ 0 0),grow_push hI.m (Ext.refl No w) 0 0 (fun h=>absurd h (by omega)) hp⟩
 rw [← hn'];simp [G.push,upd_same]
theorem rows_fl {sz:Nat} {rows:List (List D)} {xs:List Value} {w:World} {I:Nat → Prop} (hr:∀ r ∈ rows,r.length=sz) (hx:All2 (RD w I) rows.flatten xs):xs.length=rows.length * sz:=by
 rw [← hx.length]
 clear hx
 induction rows with
 | nil=>simp
 | cons r l ih =>
  have h1:=hr r (by simp)
  have h2:=ih (fun x hx=>hr x (by simp [hx]))
  simp only [List.flatten_cons,List.length_append,List.length_cons,h1,h2,Nat.add_mul]
  omega
theorem app_ok {P:Program} {N p:Nat} {Γ:G} {s:S} {a:Act} {w:World} {o:Oper} {t:TypeId} {x z:Operand} {q:PV} {os:List Ob} {kk:Option Nat} (ho:o.op = .call { callee:=.builtin .append,args := #[x,z],argTypes := #[t,t] })
  (h:appP P p s.o t (s.ev x) (s.ev z)=some (q,os,kk)) (hI:Inv N Γ s a w) (hp:p≤Γ.n):AppOk P N p Γ s a w o q os kk:=by
 unfold appP at h
 split at h
 ·rename_i e sz hel
  split at h
  ·rename_i by' ys hby hys
   split at h
   ·rename_i hc
    obtain ⟨hsz,hz⟩:=hc
    obtain ⟨hT,i,hu,hi⟩:=slT_of hel hby hsz hz
    obtain ⟨hyr,A,c,news,hzv,hrd,hnx⟩:=src_ok hI.m hys (fun q hq=>S.ev_ok hq hI)
    have hone:=rd_one hnx
    have hexec:∀ (v v':Value) (w':World),a.eval x=v → (Builtin.append_ #[t,t] o.type #[v,.slice A ys.length c]).run P w = .ok v' w' → (execOp a.eval o).run P w = .ok (.value v') w':=by
     intro v v' w' hv hr
     simp only [execOp,ho,resolve,invoke,builtin,Sem.run_bind,Sem.run_pure,Result.andThen_ok,List.map_toArray,List.map_cons,List.map_nil,hv,hzv,hr]
    split at h
    ·
     rename_i ev
     split at h
     ·rename_i hb
      cases h
      have hv:a.eval x = .slice none 0 0:=(S.ev_ok ev hI).1
      rcases Nat.eq_zero_or_pos ys.length with h0|h0
      ·have hy0:ys=[]:=List.eq_nil_of_length_eq_zero h0
       subst hy0
       exact app_nil hI hp hsz none (hexec _ _ _ hv (by simpa using run_append_zero w t o.type e i hu hi A none 0 0 c (Nat.le_refl _) (fun _=>rfl)))
      ·obtain ⟨v',w',hr,h2,h3,h4⟩:=run_append_rd (P:=P) w w.heap.size t o.type e sz by' hT (.slice none 0 0) 0 [] (own_nil _ _ _ _) _ A ys.length c news hrd hone (by simp only [maxLen];omega) (by simp only [Nat.zero_add];have:=hb.1;rw [← Int.natCast_mul] at this;omega) (Nat.le_refl _)
       have hE:Ext No w w':=h3.mono fun k hk=>by simp [Value.ownBlock] at hk
       simp only [Nat.zero_add,List.nil_append] at h2
       exact app_new hI hp (hexec _ _ _ hv hr) hE h2 h0 hsz hyr rfl (hnx.mono fun _ _=>RD.stay ((Same.of_ext hE).stay Γ.I) _ _)
     ·cases h
    ·
     rename_i sz' l ev
     split at h
     ·rename_i hb
      obtain ⟨rfl,h00,hb1,hb2⟩:=hb
      cases h
      obtain ⟨hx1,A',hv⟩:=S.ev_ok ev hI
      obtain ⟨A2,c2,xs,he,_,hxr,hxl,hxx⟩:=rd_sl.1 hx1
      have hv2:a.eval x = .slice A2 l.length l.length:=by rw [hv] at he ⊢;injection he with e1 e2 e3;rw [e1]
      rcases Nat.eq_zero_or_pos ys.length with h0|h0
      ·have hy0:ys=[]:=List.eq_nil_of_length_eq_zero h0
       have hl0:l=[]:=List.eq_nil_of_length_eq_zero (by omega)
       subst hy0 hl0
       exact app_nil hI hp hsz A2 (hexec _ _ _ hv2 (by simpa using run_append_zero w t o.type e i hu hi A A2 0 0 c (Nat.le_refl _) (fun _=>rfl)))
      obtain ⟨v',w',hr,h2,h3⟩:=run_append_full (P:=P) w w.heap.size t o.type e sz' by' hT _ _ A2 l.length xs hxr A ys.length c news hrd h0 (by simp only [maxLen];omega) (by have:=hb1;rw [← Int.natCast_add,← Int.natCast_mul] at this;omega) (Nat.le_refl _)
      refine app_new hI hp (hexec _ _ _ hv2 hr) h3 h2 (by omega) hsz (fun r hr'=>?_) (by simp) ?_
      ·rcases List.mem_append.1 hr' with hr'|hr'
       ·exact hxl r hr'
       ·exact hyr r hr'
      ·rw [List.flatten_append]
       exact (hxx.append hnx).mono fun _ _=>RD.stay ((Same.of_ext h3).stay Γ.I) _ _
     ·cases h
    ·
     rename_i k n ev
     split at h
     ·rename_i e' sz' rows hk
      split at h
      ·rename_i hb
       obtain ⟨rfl,rfl,hpk,hnr,hb1,hb2⟩:=hb
       cases h
       obtain ⟨hkn,hrep⟩:=S.ev_ok ev hI
       obtain ⟨g1,g2,g3,g4⟩:=hI.m.ob k _ hk
       have hkl:k < s.o.length:=by rw [← hI.m.n];exact hkn
       have hnl:(rows.take n).length=n:=by rw [List.length_take];omega
       have hrl:∀ r ∈ rows.take n++ys,r.length=sz':=fun r hr=>by
        rcases List.mem_append.1 hr with hr|hr
        ·exact g1 r (List.mem_of_mem_take hr)
        ·exact hyr r hr
       have fin:∀ (b c':Nat) (v':Value) (w':World),(execOp a.eval o).run P w = .ok (.value v') w' → Ext (fun i=>0 < Γ.cap k∧i=Γ.β k) w w' → ((0 < Γ.cap k∧b=Γ.β k)∨w.heap.size≤b∨c'=0) →
         (∀ Γ':G,Γ'.I=Γ.I → Γ'.β k=b → Γ'.cap k=c' → Stay w Γ.I w' Γ'.I → RO w' Γ' k (.arr e' sz' (rows.take n++ys))∧OwnRep Γ' k (n+ys.length) v') →
         AppOk P N p Γ s a w o (.c (.own k (n+ys.length))) (setO (killO k s.o) k (.arr e' sz' (rows.take n++ys))) (some k):=by
        intro b c' v' w' hr hE hb' hfin
        have hΓ:∃ Γ':G,Γ'=⟨Γ.n,upd Γ.β k b,upd Γ.cap k c',Γ.I⟩:=⟨_,rfl⟩
        obtain ⟨Γ',hΓ⟩:=hΓ
        have q1:Γ'.n=Γ.n:=by rw [hΓ]
        have q2:Γ'.I=Γ.I:=by rw [hΓ]
        have q3:Γ'.β k=b:=by rw [hΓ];exact upd_same _ _ _
        have q4:Γ'.cap k=c':=by rw [hΓ];exact upd_same _ _ _
        have q5:∀ j,j≠k → Γ'.β j=Γ.β j∧Γ'.cap j=Γ.cap j:=fun j hj=>by rw [hΓ];exact ⟨upd_ne _ _ hj,upd_ne _ _ hj⟩
        have hs:Stay w Γ.I w' Γ'.I:=⟨hE.size,fun i hi hl=>hE.block i hl fun ⟨h1,h2⟩=>hI.m.off k hkn h1 (h2 ▸ hi),fun i hi=>by rw [q2];exact hi⟩
        obtain ⟨hro,hrep'⟩:=hfin Γ' q2 q3 q4 hs
        have hag:∀ j,j < Γ.n → j≠k → Agree Γ Γ' j:=fun j hj hjk=>⟨by rw [q1];exact hj,(q5 j hjk).1,(q5 j hjk).2⟩
        refine ⟨v',w',Γ',hr,⟨by rw [q1];exact hkn,hrep'⟩,⟨hI.size,hI.defers,fun i q hq=>?_,?_⟩,?_⟩
        ·simp only [S.get] at hq
         rw [look_kill] at hq
         obtain ⟨q0,hq0,rfl⟩:=Option.map_eq_some_iff.1 hq
         obtain ⟨i1,i2⟩:=hI.t i q0 hq0
         obtain ⟨i3,i4⟩:=RP.kill k i2
         exact ⟨i1,i3.stay hs fun j hj=>hag j (i3.lt j hj) fun e=>i4 (e ▸ hj)⟩
        ·refine ⟨by rw [q1,hI.m.n,setO,List.length_set,killO_length],fun j o' ho'=>?_,fun j j' hj hj' hcj hcj' he=>?_,fun j hj hcj=>?_,fun i hi=>?_,hI.m.pins hs⟩
         ·simp only [setO] at ho'
          by_cases hjk:k=j
          ·subst hjk
           rw [List.getElem?_set_self (by rw [killO_length];exact hkl)] at ho'
           cases ho'
           exact hro
          ·rw [List.getElem?_set_ne hjk,killO_get] at ho'
           obtain ⟨o0,ho0,rfl⟩:=Option.map_eq_some_iff.1 ho'
           have hj:j < Γ.n:=by rw [hI.m.n];exact (List.getElem?_eq_some_iff.1 ho0).1
           have h0:=hI.m.ob j o0 ho0
           have hblk:0 < Γ.cap j → w'.heap[Γ.β j]? = w.heap[Γ.β j]?:=fun hcj=>hE.block _ (mine_lt hI.m hj hcj) fun ⟨h1,h2⟩=>hjk (hI.m.sep k j hkn hj h1 hcj h2.symm)
           cases o0 with
           | box ty cs =>
            obtain ⟨j1,xs,j2,j3,j6⟩:=h0
            obtain ⟨j4,j5⟩:=re_kill k j3
            refine ⟨by rw [(q5 j (Ne.symm hjk)).2];exact j1,xs,by rw [(q5 j (Ne.symm hjk)).1];exact (hblk j1).trans j2,re_stay j4 hs (fun i hi=>hag i (re_lt j4 i hi) fun e=>j5 (e ▸ hi)),by unfold Room;rw [(q5 j (Ne.symm hjk)).2];exact j6⟩
           | arr el' sz'' rows' =>
            obtain ⟨j1,j2,j3,j4⟩:=h0
            refine ⟨j1,j2,by rw [(q5 j (Ne.symm hjk)).2];exact j3,fun hcj=>?_⟩
            rw [(q5 j (Ne.symm hjk)).2] at hcj ⊢
            obtain ⟨cur,m1,m2,m3,m4,m5⟩:=j4 hcj
            exact ⟨cur,by rw [(q5 j (Ne.symm hjk)).1];exact (hblk hcj).trans m1,m2,m3,m4,m5.mono fun _ _=>RD.stay hs _ _⟩
           | map kk' ag es =>
            obtain ⟨j1,ms,ck,j2,j3⟩:=h0
            exact ⟨by rw [(q5 j (Ne.symm hjk)).2];exact j1,ms,ck,by rw [(q5 j (Ne.symm hjk)).1];exact (hblk j1).trans j2,j3.stay hs⟩
           | loop l L t =>
            obtain ⟨j1,j2,tm,j3,j4,j5⟩:=h0
            have hb5:=hblk j1
            rw [j2] at hb5
            refine ⟨by rw [(q5 j (Ne.symm hjk)).2];exact j1,by rw [(q5 j (Ne.symm hjk)).1];exact j2,tm,hb5.trans j3,j4,fun i q hq=>?_⟩
            rw [look_kill] at hq
            obtain ⟨q0,hq0,rfl⟩:=Option.map_eq_some_iff.1 hq
            obtain ⟨i1,i2⟩:=j5 i q0 hq0
            obtain ⟨i3,i4⟩:=RP.kill k i2
            exact ⟨i1,i3.stay hs fun i' hi'=>hag i' (i3.lt i' hi') fun e=>i4 (e ▸ hi')⟩
         ·rw [q1] at hj hj'
          by_cases e1:j=k<;>by_cases e2:j'=k
          ·omega
          ·subst e1
           rw [q3,(q5 j' e2).1] at he
           rw [q4] at hcj
           rw [(q5 j' e2).2] at hcj'
           have:=mine_lt hI.m hj' hcj'
           rcases hb' with ⟨h1,h2⟩|h1|h1
           ·exact hI.m.sep j j' hj hj' h1 hcj' (by rw [← he,h2])
           ·omega
           ·omega
          ·subst e2
           rw [q3,(q5 j e1).1] at he
           rw [q4] at hcj'
           rw [(q5 j e1).2] at hcj
           have:=mine_lt hI.m hj hcj
           rcases hb' with ⟨h1,h2⟩|h1|h1
           ·exact hI.m.sep j j' hj hj' hcj h1 (by rw [he,h2])
           ·omega
           ·omega
          ·rw [(q5 j e1).1,(q5 j' e2).1] at he
           rw [(q5 j e1).2] at hcj
           rw [(q5 j' e2).2] at hcj'
           exact hI.m.sep j j' hj hj' hcj hcj' he
         ·rw [q1] at hj
          rw [q2]
          by_cases e1:j=k
          ·subst e1
           rw [q3]
           rw [q4] at hcj
           rcases hb' with ⟨h1,h2⟩|h1|h1
           ·rw [h2];exact hI.m.off j hj h1
           ·intro hi;have:=hI.m.lt _ hi;omega
           ·omega
          ·rw [(q5 j e1).1]
           rw [(q5 j e1).2] at hcj
           exact hI.m.off j hj hcj
         ·rw [q2] at hi
          exact Nat.lt_of_lt_of_le (hI.m.lt i hi) hE.size
        ·refine ⟨hE.mono fun i ⟨h1,h2⟩=>⟨k,hkn,h1,h2.symm⟩,fun i hi=>by rw [q2];exact hi,fun j hj hcj=>?_,fun i hi=>by rw [q2] at hi;exact .inl hi,fun j hj=>?_⟩
         ·rw [q1] at hj
          by_cases e1:j=k
          ·subst e1
           rw [q3]
           rw [q4] at hcj
           rcases hb' with ⟨h1,h2⟩|h1|h1
           ·exact .inl ⟨j,hj,h1,h2.symm⟩
           ·exact .inr h1
           ·omega
          ·rw [(q5 j e1).1]
           rw [(q5 j e1).2] at hcj
           exact .inl ⟨j,hj,hcj,rfl⟩
         ·have:j≠k:=by omega
          exact q5 j this
       rcases Nat.eq_zero_or_pos ys.length with hy0|hy0
       ·
        have hys0:ys=[]:=List.eq_nil_of_length_eq_zero hy0
        subst hys0
        simp only [List.append_nil,List.length_nil,Nat.add_zero] at fin ⊢
        have hrun0:(execOp a.eval o).run P w = .ok (.value (a.eval x)) w:=by
         rcases hrep with ⟨h1,⟨A0,h2⟩,h3⟩|⟨h1,h2,h3⟩
         ·rw [h2]
          exact hexec _ _ _ h2 (run_append_zero w t o.type e' i hu hi A A0 0 0 c (Nat.le_refl _) (fun _=>rfl))
         ·rw [h2]
          exact hexec _ _ _ h2 (run_append_zero w t o.type e' i hu hi A _ n (Γ.cap k) c h3 (fun h=>by cases h))
        refine fin (Γ.β k) (Γ.cap k) (a.eval x) w hrun0 (Ext.refl _ w) ?_ (fun Γ' q2 q3 q4 hs=>⟨?_,?_⟩)
        ·rcases Nat.eq_zero_or_pos (Γ.cap k) with h|h
         ·exact .inr (.inr h)
         ·exact .inl ⟨h,rfl⟩
        ·refine ⟨fun r hr=>g1 r (List.mem_of_mem_take hr),g2,fun h=>by rw [q4] at h;rw [g3 h];simp,fun hcj=>?_⟩
         rw [q4] at hcj
         obtain ⟨cur,m1,m2,m3,m4,m5⟩:=g4 hcj
         refine ⟨cur,by rw [q3];exact m1,by rw [q4];exact m2,by rw [q4,hnl];omega,by rw [q4];exact m4,?_⟩
         have hnr':n * sz'≤rows.length * sz':=Nat.mul_le_mul_right _ hnr
         have hm5:=(m5.take (n * sz'))
         rw [List.take_take,Nat.min_eq_left hnr',show rows.flatten.take (n * sz')=(rows.take n).flatten from take_rows g1 hnr] at hm5
         rw [hnl]
         exact hm5.mono fun _ _=>RD.stay hs _ _
        ·unfold OwnRep at hrep ⊢
         rw [q3,q4]
         exact hrep
       ·
        rcases hrep with ⟨z1,⟨A0,z2⟩,z3⟩|hrep
        ·
         subst z3
         obtain ⟨v',w',hr,h2,h3⟩:=run_append_full (P:=P) w w.heap.size t o.type e' sz' by' hT (fun _=>True) _ A0 0 [] ⟨by simp,fun h=>absurd h (by omega)⟩ A ys.length c news hrd hy0 (by simp only [maxLen];omega) (by have:=hb1;rw [← Int.natCast_add,← Int.natCast_mul] at this;omega) (Nat.le_refl _)
         simp only [List.nil_append,Nat.zero_add] at h2
         obtain ⟨b,c',rfl,hc,hnc,hbb,hbl,hvb,hro⟩:=arr_of_own (k:=k) (Γ:=Γ) h2 hy0 hsz hyr rfl
         simp only [List.take_zero,List.nil_append,Nat.zero_add] at fin ⊢
         refine fin b c' _ w' (hexec _ _ _ z2 hr) (h3.mono fun i hi=>hi.elim) (.inr (.inl hbb)) (fun Γ' q2 q3 q4 hs=>⟨?_,.inr ⟨by rw [q4];exact hc,by rw [q3,q4],by rw [q4];exact hnc⟩⟩)
         exact hro Γ' q3 q4 (hnx.mono fun _ _=>RD.stay hs _ _)
        have hold:∃ xs,w.ownsRow 0 e' sz' (a.eval x) n xs∧All2 (RD w Γ.I) (rows.take n).flatten xs∧(a.eval x).ownBlock=(if 0 < Γ.cap k then some (Γ.β k) else none):=by
         obtain ⟨h1,h2,h3⟩:=hrep
         obtain ⟨cur,m1,m2,m3,m4,m5⟩:=g4 h1
         have hm5:=(m5.take (n * sz'))
         have hnr':n * sz'≤rows.length * sz':=Nat.mul_le_mul_right _ hnr
         rw [List.take_take,Nat.min_eq_left hnr',show rows.flatten.take (n * sz')=(rows.take n).flatten from take_rows g1 hnr] at hm5
         exact ⟨_,by rw [h2];exact own_blk m1 (Nat.zero_le _) m2 h3 m4,hm5,by rw [h2,if_pos h1];rfl⟩
        obtain ⟨xs,hown,hxs,hob⟩:=hold
        obtain ⟨v',w',hr,h2,h3,h4⟩:=run_append_rd (P:=P) w 0 t o.type e' sz' by' hT (a.eval x) n xs hown _ A ys.length c news hrd hone (by simp only [maxLen];omega) (by have:=hb1;rw [← Int.natCast_add,← Int.natCast_mul] at this;omega) (Nat.zero_le _)
        have hE:Ext (fun i=>0 < Γ.cap k∧i=Γ.β k) w w':=h3.mono fun i hi=>by
         rw [hob] at hi
         split at hi
         ·rename_i h5;injection hi with hi;exact ⟨h5,hi.symm⟩
         ·cases hi
        obtain ⟨b,c',rfl,hc,hnc,_,hbl,hvb,hro⟩:=arr_of_own (k:=k) (Γ:=Γ) h2 (by omega) hsz hrl (by simp [hnl])
        refine fin b c' _ w' (hexec _ _ _ rfl hr) hE ?_ (fun Γ' q2 q3 q4 hs=>⟨?_,.inr ⟨by rw [q4];exact hc,by rw [q3,q4],by rw [q4];exact hnc⟩⟩)
        ·rcases h4 with h4|h4
         ·rw [hvb,hob] at h4
          split at h4
          ·rename_i h5;injection h4 with h4;exact .inl ⟨h5,h4⟩
          ·cases h4
         ·rw [hvb] at h4
          injection h4 with h4
          exact .inr (.inl (by omega))
        ·refine hro Γ' q3 q4 ?_
         rw [List.flatten_append]
         exact (hxs.append hnx).mono fun _ _=>RD.stay hs _ _
      ·cases h
     ·cases h
    ·cases h
   ·cases h
  ·cases h
 ·cases h
def inpP (P:Program) (os:List Ob) (t:TypeId):Option PV → Option PV → Option (PV × List Ob)
 | some (.c (.own k n)),some (.c (.seg k' sz lo m))=>match elOf P t,os[k]? with
  | some (e,sz1),some (.arr e' sz' rows)=>if k'=k∧e'=e∧sz1=sz∧sz'=sz∧n≤lo∧lo+m≤rows.length then some (.c (.own k (n+m)),setO os k (.arr e' sz' (rows.take n++((rows.drop lo).take m++rows.drop (n+m))))) else none
  | _,_=>none
 | _,_=>none
def clearP (P:Program) (os:List Ob) (t:TypeId):Option PV → Option (PV × List Ob)
 | some (.c (.seg k sz lo m))=>match elOf P t,os[k]? with
  | some (e,sz1),some (.arr e' sz' rows)=>match (zerOf P e).bind toDs with
   | some z=>if e'=e∧sz1=sz∧sz'=sz∧z.length=sz∧lo+m≤rows.length then some (.undef,setO os k (.arr e' sz' (rows.take lo++(List.replicate m z++rows.drop (lo+m))))) else none
   | none=>none
  | _,_=>none
 | _=>none
theorem over_ok {P:Program} {N p:Nat} {Γ:G} {s:S} {a:Act} {w:World} {o:Oper} {k n m:Nat} {el:TypeId} {sz:Nat} {rows new:List (List D)} {vs:List Value} {q:PV} (hI:Inv N Γ s a w) (hk:k < Γ.n) (hob:s.o[k]? = some (.arr el sz rows)) (h0:0 < Γ.cap k)
  (hm:new.length=m) (hfit:n+m≤rows.length) (hnew:∀ r ∈ new,r.length=sz) (hvs:All2 (RD w Γ.I) new.flatten vs) {y:Value} (hq:∀ w' Γ',Γ'.n=Γ.n → Γ'.β=Γ.β → Γ'.cap=Γ.cap → RP w' Γ' q y)
  (hrun:∀ w',(storeCells ⟨Γ.β k,n * sz,none⟩ vs).run P w = .ok () w' → (execOp a.eval o).run P w = .ok (.value y) w') :
  HeapOk P N p Γ s a w o q (setO s.o k (.arr el sz (rows.take n++(new++rows.drop (n+m))))):=by
 obtain ⟨g1,g2,g3,g4⟩:=hI.m.ob k _ hob
 obtain ⟨cur,b1,b2,b3,b4,b5⟩:=g4 h0
 have hvl:vs.length=m * sz:=by rw [rows_fl hnew hvs,hm]
 have hle:(n+m) * sz≤rows.length * sz:=Nat.mul_le_mul_right _ hfit
 have hle2:rows.length * sz≤Γ.cap k * sz:=Nat.mul_le_mul_right _ b3
 rw [Nat.add_mul] at hle
 have hst:=run_storeCells_at P (Γ.β k) (n * sz) el vs 0 cur w b1 (by omega) (rd_one hvs)
 simp only [Nat.add_zero] at hst
 have hE:Ext (· = Γ.β k) w (w.setRow (Γ.β k) (cur.toList.take (n * sz)++vs++cur.toList.drop (n * sz+vs.length)).toArray):=⟨rfl,rfl,rfl,by simp [World.setRow],fun q _ hS=>setRow_other w (Γ.β k) q _ hS⟩
 have hs':Stay w Γ.I (w.setRow (Γ.β k) (cur.toList.take (n * sz)++vs++cur.toList.drop (n * sz+vs.length)).toArray) Γ.I:=⟨hE.size,fun b hb' hl=>hE.block b hl fun e=>hI.m.off k hk h0 (e ▸ hb'),fun _ h=>h⟩
 have hlen:(rows.take n++(new++rows.drop (n+m))).length=rows.length:=by simp only [List.length_append,List.length_take,List.length_drop,hm];omega
 have hro:RO (w.setRow (Γ.β k) (cur.toList.take (n * sz)++vs++cur.toList.drop (n * sz+vs.length)).toArray) Γ k (.arr el sz (rows.take n++(new++rows.drop (n+m)))):=by
  refine ⟨fun r hr=>?_,g2,fun h=>absurd h (by omega),fun _=>⟨_,setRow_heap w (Γ.β k) cur _ el _ b1,?_,by rw [hlen];exact b3,b4,?_⟩⟩
  ·rcases List.mem_append.1 hr with hr|hr
   ·exact g1 r (List.mem_of_mem_take hr)
   ·rcases List.mem_append.1 hr with hr|hr
    ·exact hnew r hr
    ·exact g1 r (List.mem_of_mem_drop hr)
  ·simp only [List.size_toArray,List.length_append,List.length_take,List.length_drop,Array.length_toList];omega
  ·rw [hlen]
   have h1:=b5.take (n * sz)
   rw [List.take_take,Nat.min_eq_left (by omega),take_rows g1 (by omega)] at h1
   have h2:=b5.drop ((n+m) * sz)
   rw [drop_rows g1 hfit] at h2
   have h3:=(h1.append (hvs.append h2)).mono fun _ _=>RD.stay hs' _ _
   rw [List.flatten_append,List.flatten_append]
   have e:(cur.toList.take (n * sz)++vs++cur.toList.drop (n * sz+vs.length)).toArray.toList.take (rows.length * sz)=cur.toList.take (n * sz)++(vs++(cur.toList.take (rows.length * sz)).drop ((n+m) * sz)):=by
    have hc0:cur.toList.length=cur.size:=Array.length_toList
    have hl1:(cur.toList.take (n * sz)).length=n * sz:=by rw [List.length_take];omega
    simp only [List.append_assoc]
    have t1:∀ (u v:List Value) (M:Nat),u.length≤M → (u++v).take M=u++v.take (M - u.length):=fun u v M h=>by rw [List.take_append,List.take_of_length_le h]
    rw [t1 _ _ _ (by omega),t1 _ _ _ (by omega),List.drop_take,Nat.add_mul,hvl,hl1]
    congr 3
    omega
   rw [e]
   exact h3
 obtain ⟨hm',hs⟩:=hI.m.set_ hk h0 hE _ hro
 exact ⟨y,_,Γ,.inl (hrun _ hst),hq _ Γ rfl rfl rfl,hI.heap hm' hs (fun j hj=>⟨hj,rfl,rfl⟩),grow_set hk h0 hE⟩
theorem same_rows {P:Program} {N p:Nat} {Γ:G} {s:S} {a:Act} {w:World} {o:Oper} {k:Nat} {ob:Ob} {q:PV} {y:Value} (hI:Inv N Γ s a w) (hob:s.o[k]? = some ob) (hq:RP w Γ q y) (hrun:(execOp a.eval o).run P w = .ok (.value y) w):HeapOk P N p Γ s a w o q (setO s.o k ob):=by
 have:setO s.o k ob=s.o:=by unfold setO;obtain ⟨hj,rfl⟩:=List.getElem?_eq_some_iff.1 hob;exact List.set_getElem_self hj
 rw [this]
 exact ⟨y,w,Γ,.inl hrun,hq,hI,Grow.refl _ _ _⟩
theorem inp_ok {P:Program} {N p:Nat} {Γ:G} {s:S} {a:Act} {w:World} {o:Oper} {t:TypeId} {x z:Operand} {q:PV} {os:List Ob} (ho:o.op = .call { callee:=.builtin .append,args := #[x,z],argTypes := #[t,t] })
  (h:inpP P s.o t (s.ev x) (s.ev z)=some (q,os)) (hI:Inv N Γ s a w):HeapOk P N p Γ s a w o q os:=by
 unfold inpP at h
 split at h
 ·rename_i k n k' sz lo m e1 e2
  obtain ⟨hk,hrep⟩:=S.ev_ok e1 hI
  have hz:=S.ev_ok e2 hI
  split at h
  ·rename_i e sz1 e' sz' rows hel hob
   split at h
   ·rename_i hc
    obtain ⟨rfl,rfl,rfl,rfl,hn,hm⟩:=hc
    cases h
    obtain ⟨hu,hs⟩:=el_run hel
    obtain ⟨i,hi,hisz⟩:=Option.map_eq_some_iff.1 hs
    have hexec:∀ (v v':Value) (w':World),(Builtin.append_ #[t,t] o.type #[a.eval x,v]).run P w = .ok v' w' → a.eval z=v → (execOp a.eval o).run P w = .ok (.value v') w':=by
     intro v v' w' hr hv
     subst hv
     simp only [execOp,ho,resolve,invoke,builtin,Sem.run_bind,Sem.run_pure,Result.andThen_ok,List.map_toArray,List.map_cons,List.map_nil,hr]
    obtain ⟨A,c,hzv,hmc,hA⟩:=hz.2
    obtain ⟨g1,g2,g3,g4⟩:=hI.m.ob k' _ hob
    rcases Nat.eq_zero_or_pos m with h0|h0
    ·subst h0
     have e0:rows.take n++((rows.drop lo).take 0++rows.drop (n+0))=rows:=by simp
     rw [e0]
     refine same_rows (y:=a.eval x) hI hob ⟨hk,hrep⟩ ?_
     rcases hrep with ⟨h1,⟨A0,h2⟩,h3⟩|⟨h1,h2,h3⟩
     ·refine hexec _ _ _ ?_ hzv
      rw [h2]
      exact run_append_zero w t o.type e' i hu hi A A0 0 0 c (Nat.le_refl _) (fun _=>rfl)
     ·refine hexec _ _ _ ?_ hzv
      rw [h2]
      exact run_append_zero w t o.type e' i hu hi A _ n (Γ.cap k') c h3 (fun h=>by cases h)
    ·obtain ⟨h1,h2,rfl⟩:=hA h0
     rcases hrep with ⟨hx,_⟩|⟨_,hxv,hnc⟩
     ·omega
     obtain ⟨cur,b1,b2,b3,b4,b5⟩:=g4 h1
     have hle:(lo+m) * sz'≤rows.length * sz':=Nat.mul_le_mul_right _ hm
     have hle2:rows.length * sz'≤Γ.cap k' * sz':=Nat.mul_le_mul_right _ b3
     rw [Nat.add_mul] at hle
     have hb5:=(b5.drop (lo * sz')).take (m * sz')
     rw [drop_rows g1 (by omega),take_rows (fun x hx=>g1 x (List.mem_of_mem_drop hx)) (by rw [List.length_drop];omega)] at hb5
     have e1:((cur.toList.take (rows.length * sz')).drop (lo * sz')).take (m * sz')=(cur.toList.drop (lo * sz')).take (m * sz'):=by
      rw [List.drop_take,List.take_take,Nat.min_eq_left (by omega)]
     rw [e1] at hb5
     have hlen:((cur.toList.drop (lo * sz')).take (m * sz')).length=m * sz':=by
      have hc0:cur.toList.length=cur.size:=Array.length_toList
      rw [List.length_take,List.length_drop];omega
     have hld:=run_loadCells_list (P:=P) w ⟨Γ.β k',lo * sz',none⟩ ((cur.toList.drop (lo * sz')).take (m * sz')) (fun j v hv=>by
      rw [Addr.add_lit,b1.cell,← Array.getElem?_toList]
      rw [List.getElem?_take] at hv
      split at hv
      ·rw [List.getElem?_drop] at hv;exact hv
      ·cases hv)
     rw [hlen] at hld
     refine over_ok (m:=m) (vs:=(cur.toList.drop (lo * sz')).take (m * sz')) (y:=.slice (some ⟨Γ.β k',0,none⟩) (n+m) (Γ.cap k')) hI hk hob h1 (by rw [List.length_take,List.length_drop];omega) (by omega) (fun r hr=>g1 r (List.mem_of_mem_drop (List.mem_of_mem_take hr))) hb5 (fun w' Γ' q1 q2 q3=>⟨by rw [q1];exact hk,.inr ⟨by rw [q3];exact h1,by rw [q2,q3],by rw [q3];omega⟩⟩) (fun w' hst=>?_)
     refine hexec _ _ _ ?_ hzv
     rw [hxv]
     simp [Builtin.append_,run_underlying hu,sizeOf,typeInfo,hi,hisz,Builtin.lenOf,Builtin.firstCells,hld,show n+m≤Γ.cap k' by omega,Addr.add_lit,hst]
   ·cases h
  ·cases h
 ·cases h
theorem zero_cells {z:List Value} (m:Nat):(Builtin.zeroCells z.toArray m).toList=(List.replicate m z).flatten:=by
 apply List.ext_getElem?
 intro i
 simp only [Builtin.zeroCells,Array.toList_map,Array.toList_range,List.size_toArray,List.getElem?_map]
 induction m generalizing i with
 | zero=>simp
 | succ m ih =>
  rw [List.replicate_succ,List.flatten_cons]
  rcases Nat.lt_or_ge i z.length with hlt|hge
  ·rw [List.getElem?_append_left hlt]
   have:i < (m+1) * z.length:=by rw [Nat.add_mul];omega
   rw [List.getElem?_range this]
   simp [Nat.mod_eq_of_lt hlt,hlt]
  ·rw [List.getElem?_append_right hge,← ih]
   rcases Nat.lt_or_ge i ((m+1) * z.length) with hi|hi
   ·have h2:i - z.length < m * z.length:=by rw [Nat.add_mul] at hi;omega
    rw [List.getElem?_range hi,List.getElem?_range h2]
    simp only [Option.map_some]
    congr 2
    rw [Nat.mod_eq_sub_mod hge]
   ·have h2:m * z.length≤i - z.length:=by rw [Nat.add_mul] at hi;omega
    rw [List.getElem?_eq_none (by simpa using hi),List.getElem?_eq_none (by simpa using h2)]
theorem clear_ok {P:Program} {N p:Nat} {Γ:G} {s:S} {a:Act} {w:World} {o:Oper} {t:TypeId} {x:Operand} {q:PV} {os:List Ob} (ho:o.op = .call { callee:=.builtin .clear,args := #[x],argTypes := #[t] })
  (h:clearP P s.o t (s.ev x)=some (q,os)) (hI:Inv N Γ s a w):HeapOk P N p Γ s a w o q os:=by
 unfold clearP at h
 split at h
 ·rename_i k sz lo m e1
  obtain ⟨hk,A,c,hv,hmc,hA⟩:=S.ev_ok e1 hI
  split at h
  ·rename_i e sz1 e' sz' rows hel hob
   split at h
   ·rename_i z hz
    split at h
    ·rename_i hc
     obtain ⟨rfl,rfl,rfl,hzl,hm⟩:=hc
     cases h
     obtain ⟨hu,hs⟩:=el_run hel
     obtain ⟨zs,hzs,hzd⟩:=Option.bind_eq_some_iff.1 hz
     obtain ⟨i,zv,hi,hzv,hzr⟩:=zer_ok hzs
     have hexec:∀ (w':World),(Builtin.clear_ #[t] o.type #[a.eval x]).run P w = .ok (.tuple #[]) w' → (execOp a.eval o).run P w = .ok (.value (.tuple #[])) w':=by
      intro w' hr
      simp only [execOp,ho,resolve,invoke,builtin,Sem.run_bind,Sem.run_pure,Result.andThen_ok,List.map_toArray,List.map_cons,List.map_nil,hr]
     rcases Nat.eq_zero_or_pos m with h0|h0
     ·subst h0
      have e0:rows.take lo++(List.replicate 0 z++rows.drop (lo+0))=rows:=by simp
      rw [e0]
      refine same_rows (y:=.tuple #[]) hI hob rfl (hexec _ ?_)
      rw [hv]
      cases A<;>simp [Builtin.clear_,run_underlying hu]
     ·obtain ⟨h1,h2,rfl⟩:=hA h0
      have hzd':=(toDs_ok hzd (hzr w Γ)).1
      have hall:∀ m,All2 (RD w Γ.I) (List.replicate m z).flatten (List.replicate m zv.cells.toList).flatten:=by
       intro m
       induction m with
       | zero=>trivial
       | succ m ih=>rw [List.replicate_succ,List.replicate_succ,List.flatten_cons,List.flatten_cons];exact hzd'.append ih
      refine over_ok (m:=m) (vs:=(List.replicate m zv.cells.toList).flatten) (y:=.tuple #[]) hI hk hob h1 (by simp) hm (fun r hr=>by rw [List.eq_of_mem_replicate hr];exact hzl) (hall m) (fun _ _ _ _ _=>rfl) (fun w' hst=>hexec _ ?_)
      rw [hv]
      obtain ⟨m',rfl⟩:∃ m',m=m'+1:=⟨m - 1,by omega⟩
      have hzc:=zero_cells (z:=zv.cells.toList) (m'+1)
      rw [Array.toArray_toList] at hzc
      simp [Builtin.clear_,run_underlying hu,zeroValue,typeInfo,hi,hzv,hzc,hst]
    ·cases h
   ·cases h
  ·cases h
 ·cases h
end Go.Proofs.YthhfpcbpiphfiaaGreatDoor
