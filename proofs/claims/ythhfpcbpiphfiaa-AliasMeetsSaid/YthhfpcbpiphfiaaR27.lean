/- What the program computes, and the plain laws of it, part 27. -/
import Derived.Lib.IndexAny
import Derived.WideKeyEntry
import Derived.Test.YthhfpcbpiphfiaaR25
import Derived.Test.YthhfpcbpiphfiaaR26
namespace Go.Proofs.Ythhfpcbpiphfiaa
open Go.RowKit
open IntWalk renaming iteOmega → iO, toNatUp → tN
set_option linter.unusedVariables false
set_option linter.unusedSimpArgs false
structure HidP where
 ty:TypeId
 kk:Option KI
 el:TypeId
 sz:Nat
 Bx:Nat
 M:Nat
 Γ0:G
 w0:World
structure HidS (X:HidP) (Γ:G) (w:World) (hs:List HE) (ms:List MapEntry) (ck:Nat):Prop where
 map:HMap w Γ.I X.kk X.M X.el X.sz hs ms ck
 prv:Priv Γ w fun b=>b=X.Bx∨hidB X.M hs b
 box:Blk w X.Bx X.ty #[.map (some X.M)]
 ne:X.Bx≠X.M
 ne2:∀ h ∈ hs,h.blk≠X.Bx
 new:∀ b,b=X.Bx∨hidB X.M hs b → Mine X.Γ0 b∨X.w0.heap.size≤b
abbrev HRows:=List (MK × List (List D))
def Hid (X:HidP) (Γ:G) (w:World) (l:HRows):Prop:=∃ hs ms ck,HidS X Γ w hs ms ck∧hs.map HE.pr=l
theorem Hid.grow {X:HidP} {Γ Γ':G} {w w':World} {l:HRows} {p:Nat} {os:List Ob} (h:Hid X Γ w l) (hm:MemOk Γ os w) (hg:Grow p Γ w Γ' w'):Hid X Γ' w' l:=by
 obtain ⟨hs,ms,ck,h1,h2⟩:=h
 obtain ⟨p1,p2⟩:=h1.prv.grow hg
 refine ⟨hs,ms,ck,⟨h1.map.stay (hg.stay hm) fun b hb=>p2 b (.inr hb),p1,?_,h1.ne,h1.ne2,h1.new⟩,h2⟩
 unfold Blk
 rw [p2 X.Bx (.inl rfl)]
 exact h1.box
def HPost (z N p:Nat) (X:HidP) (Q:Exit → S → HRows → Prop):Exit → Act → World → Prop:=fun e a' w'=>∃ s' Γ' l',Q e s' l'∧Stands N p Γ' s' a' w'∧Grow p X.Γ0 X.w0 Γ' w'∧DefOk z Γ' a' w'∧Hid X Γ' w' l'
def HW (rd:Option Nat) (P:Program) (N p z:Nat) (X:HidP) (c:Code) (Q:Exit → S → HRows → Prop) (s:S) (l:HRows):Prop :=
 ∀ Γ a w,Stands N p Γ s a w → Grow p X.Γ0 X.w0 Γ w → DefOk z Γ a w → Hid X Γ w l → Code.wpIn (Fw rd) 0 P c (HPost z N p X Q) a w
def thenH (K:S → HRows → Prop) (Q:Exit → S → HRows → Prop):Exit → S → HRows → Prop
 | .normal,s,l=>K s l
 | e,s,l=>Q e s l
def inH (id:Nat) (Q:Exit → S → HRows → Prop):Exit → S → HRows → Prop
 | .exit j,s,l=>if j=id then Q .normal s l else Q (.exit j) s l
 | e,s,l=>Q e s l
section
variable {rd:Option Nat} {P:Program} {N p z:Nat} {X:HidP} {Q:Exit → S → HRows → Prop} {s:S} {l:HRows}
theorem hw_lift {c:Code} (h:PWPr rd P N p c (fun e s'=>Q e s' l) s):HW rd P N p z X c Q s l:=fun Γ a w hA hG hD hH=>by
 refine wpIn_mono (h z Γ a w hA hD) ?_
 rintro e a' w' ⟨s2,Γ2,q,hA2,hg,hd⟩
 exact ⟨s2,Γ2,l,q,hA2,hG.trans hg,hd,hH.grow hA.inv.m hg⟩
theorem hw_mono {c:Code} {Q':Exit → S → HRows → Prop} (h:HW rd P N p z X c Q' s l) (hq:∀ e s l,Q' e s l → Q e s l):HW rd P N p z X c Q s l:=fun Γ a w hA hG hD hH=>by
 refine wpIn_mono (h Γ a w hA hG hD hH) ?_
 rintro e a' w' ⟨s2,Γ2,l2,q,r⟩
 exact ⟨s2,Γ2,l2,hq _ _ _ q,r⟩
theorem hw_weak {c:Code} {s':S} (hw:Weak N p s s') (h:HW rd P N p z X c Q s' l):HW rd P N p z X c Q s l:=fun Γ a w hA hG hD hH=>by
 obtain ⟨Γ1,h1,g1⟩:=hw Γ a w hA
 exact h Γ1 a w h1 (hG.trans g1) (hD.grow g1 rfl) (hH.grow hA.inv.m g1)
theorem hw_seq {x y:Code} (h:HW rd P N p z X x (thenH (fun s' l'=>HW rd P N p z X y Q s' l') Q) s l):HW rd P N p z X (.seq x y) Q s l:=fun Γ a w hA hG hD hH=>by
 refine wpIn_seq (wpIn_mono (h Γ a w hA hG hD hH) ?_)
 rintro e a' w' ⟨s2,Γ2,l2,q,hA2,hg,hd,hh⟩
 cases e with
 | normal=>exact q Γ2 a' w' hA2 hg hd hh
 | exit j=>exact ⟨s2,Γ2,l2,q,hA2,hg,hd,hh⟩
 | goto l=>exact ⟨s2,Γ2,l2,q,hA2,hg,hd,hh⟩
 | ret=>exact ⟨s2,Γ2,l2,q,hA2,hg,hd,hh⟩
 | panic ch=>exact ⟨s2,Γ2,l2,q,hA2,hg,hd,hh⟩
 | outgrown=>exact ⟨s2,Γ2,l2,q,hA2,hg,hd,hh⟩
theorem hw_block {id:Nat} {c:Code} (h:HW rd P N p z X c (inH id Q) s l):HW rd P N p z X (.block id c) Q s l:=fun Γ a w hA hG hD hH=>by
 refine wpIn_block (wpIn_mono (h Γ a w hA hG hD hH) ?_)
 rintro e a' w' ⟨s2,Γ2,l2,q,hA2,hg,hd,hh⟩
 cases e with
 | exit j =>
  simp only [inH] at q
  simp only [Exit.inBlock]
  split
  ·rename_i hj;rw [if_pos hj] at q;exact ⟨s2,Γ2,l2,q,hA2,hg,hd,hh⟩
  ·rename_i hj;rw [if_neg hj] at q;exact ⟨s2,Γ2,l2,q,hA2,hg,hd,hh⟩
 | normal=>exact ⟨s2,Γ2,l2,q,hA2,hg,hd,hh⟩
 | goto l=>exact ⟨s2,Γ2,l2,q,hA2,hg,hd,hh⟩
 | ret=>exact ⟨s2,Γ2,l2,q,hA2,hg,hd,hh⟩
 | panic ch=>exact ⟨s2,Γ2,l2,q,hA2,hg,hd,hh⟩
 | outgrown=>exact ⟨s2,Γ2,l2,q,hA2,hg,hd,hh⟩
theorem hw_cond {c:Operand} {x y:Code} (h:condK (s.ev c) (HW rd P N p z X x Q s l) (HW rd P N p z X y Q s l)):HW rd P N p z X (.cond c x y) Q s l:=fun Γ a w hA hG hD hH=>by
 unfold condK at h
 split at h
 ·rename_i t X' Y' e
  have hc:=(S.ev_ok e hA.inv).1
  exact wpIn_cond_split hc (fun ht=>h.1 ht Γ a w hA hG hD hH) (fun ht=>h.2 ht Γ a w hA hG hD hH)
 ·exact h.elim
theorem hw_skip (h:Q .normal s l):HW rd P N p z X .skip Q s l:=fun Γ a w hA hG hD hH=>wpIn_skip ⟨s,Γ,l,h,hA,hG,hD,hH⟩
theorem hw_exit {id:Nat} (h:Q (.exit id) s l):HW rd P N p z X (.exit id) Q s l:=fun Γ a w hA hG hD hH=>wpIn_exit ⟨s,Γ,l,h,hA,hG,hD,hH⟩
theorem hw_loop {c:Code} {α:Type} (Φ:α → Prop) (St:α → S) (L:α → HRows) (μ:α → Nat) (x0:α) (h0:Φ x0) (hw:Weak N p s (St x0)) (hl:l=L x0)
  (round:∀ x,Φ x → HW rd P N p z X c (thenH (fun s' l'=>∃ x',Weak N p s' (St x')∧l'=L x'∧Φ x'∧μ x' < μ x) Q) (St x) (L x)):HW rd P N p z X (.loop c) Q s l:=fun Γ a w hA hG hD hH=>by
 obtain ⟨Γ1,h1,g1⟩:=hw Γ a w hA
 refine wpIn_loop_ghost (fun n a' w'=>∃ x Γ',Φ x∧Stands N p Γ' (St x) a' w'∧Grow p X.Γ0 X.w0 Γ' w'∧DefOk z Γ' a' w'∧Hid X Γ' w' (L x)∧μ x=n) (μ x0) ⟨x0,Γ1,h0,h1,hG.trans g1,hD.grow g1 rfl,hl ▸ hH.grow hA.inv.m g1,rfl⟩ ?_
 rintro n a' w' ⟨x,Γ',hx,hA',hg',hd1,hh',rfl⟩
 refine wpIn_mono (round x hx Γ' a' w' hA' hg' hd1 hh') ?_
 rintro e a2 w2 ⟨s2,Γ2,l2,q,hA2,hg2,hd2,hh2⟩
 cases e with
 | normal =>
  obtain ⟨x',hw',rfl,hx',hlt⟩:=q
  obtain ⟨Γ3,hA3,hg3⟩:=hw' Γ2 a2 w2 hA2
  exact ⟨μ x',hlt,x',Γ3,hx',hA3,hg2.trans hg3,hd2.grow hg3 rfl,hh2.grow hA2.inv.m hg3,rfl⟩
 | exit j=>exact ⟨s2,Γ2,l2,q,hA2,hg2,hd2,hh2⟩
 | goto l=>exact ⟨s2,Γ2,l2,q,hA2,hg2,hd2,hh2⟩
 | ret=>exact ⟨s2,Γ2,l2,q,hA2,hg2,hd2,hh2⟩
 | panic ch=>exact ⟨s2,Γ2,l2,q,hA2,hg2,hd2,hh2⟩
 | outgrown=>exact ⟨s2,Γ2,l2,q,hA2,hg2,hd2,hh2⟩
end
def isC:PV → Bool
 | .c _=>true
 | _=>false
def hidT (t:List (Nat × PV)):Bool:=t.all fun x=>x.2.keys.isEmpty || isC x.2
def anyT (x:Nat × PV):Nat × PV:=if x.2.keys.isEmpty then x else (x.1,.c .any)
theorem look_anyT:∀ {t:List (Nat × PV)} {i:Nat} {q:PV},look (t.map anyT) i=some q → ∃ q',look t i=some q'∧(i,q)=anyT (i,q')
 | [],i,q,h=>by simp [look] at h
 | (d,r) :: t,i,q,h=>by
  have hd:(anyT (d,r)).1=d:=by unfold anyT;split<;>rfl
  simp only [List.map_cons] at h
  obtain ⟨d',r',e⟩:∃ d' r',anyT (d,r)=(d',r'):=⟨_,_,rfl⟩
  rw [e] at h hd
  simp only at hd
  subst hd
  simp only [look] at h ⊢
  split at h
  ·rename_i hid
   subst hid
   cases h
   exact ⟨r,by simp,e.symm⟩
  ·rename_i hid
   rw [if_neg hid]
   exact look_anyT h
theorem hidT_look:∀ {t:List (Nat × PV)} {i:Nat} {q:PV},hidT t=true → look t i=some q → (q.keys.isEmpty || isC q)=true
 | [],i,q,_,h=>by simp [look] at h
 | (d,r) :: t,i,q,ht,h=>by
  unfold hidT at ht
  rw [List.all_cons,Bool.and_eq_true] at ht
  simp only [look] at h
  split at h
  ·cases h;exact ht.1
  ·exact hidT_look ht.2 h
theorem hid_hide {N:Nat} {Γ:G} {t:List (Nat × PV)} {a:Act} {w:World} {kk:Option KI} {ty:TypeId} (el:TypeId) (sz:Nat) {os:List Ob} {m:Nat} (hom:os[m]? = some (.map kk false [])) (hob:os[m+1]? = some (.box ty [.mp m])) (hA:Stands N 0 Γ ⟨t,os⟩ a w) {i:Nat} (hi:look t i=some (.c (.ptr (m+1) 0))) (ht:hidT t=true) :
  ∃ Γ1 Bx M,Stands N 0 Γ1 ⟨(i,.c (.v (.pointer (some ⟨Bx,0,none⟩)))) :: t.map anyT,[]⟩ a w∧Grow 0 Γ w Γ1 w∧Hid ⟨ty,kk,el,sz,Bx,M,Γ,w⟩ Γ1 w []:=by
 have hm:=hA.inv.m
 have hn:m+1 < Γ.n:=by rw [hm.n];exact (List.getElem?_eq_some_iff.1 hob).1
 obtain ⟨c0,ms,ck,b0,r0⟩:=hm.ob m _ hom
 obtain ⟨c1,xs,b1,r1,_⟩:=hm.ob (m+1) _ hob
 obtain ⟨y,xs',rfl,⟨_,rfl⟩,r2⟩:=All2.cons_l.1 r1
 rw [All2.nil_l] at r2
 subst r2
 have hms:ms.toList=[]:=by have:=r0.rows;rwa [All2.nil_l] at this
 obtain ⟨Γ1,hΓ1⟩:∃ Γ1:G,Γ1=⟨0,Γ.β,Γ.cap,Γ.I⟩:=⟨_,rfl⟩
 have hI1:Γ1.I=Γ.I:=by rw [hΓ1]
 have hs:Stay w Γ.I w Γ1.I:=by rw [hI1];exact Stay.refl _ _
 have hne:Γ.β (m+1)≠Γ.β m:=fun e=>by have:=hm.sep (m+1) m (by omega) (by omega) c1 c0 e;omega
 have o0:=hm.off m (by omega) c0
 have o1:=hm.off (m+1) (by omega) c1
 have l0:Γ.β m < w.heap.size:=(Array.getElem?_eq_some_iff.1 b0).1
 have hg:Grow 0 Γ w Γ1 w:=⟨Ext.refl _ w,fun b hb=>by rw [hI1];exact hb,fun k hk=>by rw [hΓ1] at hk;exact absurd hk (Nat.not_lt_zero _),fun b hb=>.inl (by rw [hI1] at hb;exact hb),fun k hk=>by omega⟩
 have hno:∀ b,¬ Mine Γ1 b:=fun b ⟨k,hk,_⟩=>by rw [hΓ1] at hk;exact absurd hk (Nat.not_lt_zero _)
 refine ⟨Γ1,Γ.β (m+1),Γ.β m,⟨⟨hA.inv.size,trivial,fun j q hq=>?_,⟨by rw [hΓ1];rfl,fun k o ho=>by simp at ho,fun k k' hk=>by rw [hΓ1] at hk;exact absurd hk (Nat.not_lt_zero _),fun k hk=>by rw [hΓ1] at hk;exact absurd hk (Nat.not_lt_zero _),fun b hb=>hm.lt b (by rw [hI1] at hb;exact hb),hm.pins hs⟩⟩,Nat.zero_le _⟩,hg,[],[],ck,⟨⟨?_,trivial,(fun h hh=>by cases hh),List.nodup_nil,List.Pairwise.nil,(fun b hb=>by cases hb),(fun h hh=>by cases hh),by simp⟩,⟨fun b hb=>?_,fun b hb=>?_,fun b _=>hno b⟩,b1,hne,(fun h hh=>by cases hh),fun b hb=>?_⟩,rfl⟩
 ·simp only [S.get,look] at hq
  split at hq
  ·rename_i e
   subst e
   cases hq
   obtain ⟨h1,h2,h3⟩:=hA.inv.t j _ hi
   exact ⟨h1,h3,rfl⟩
  ·obtain ⟨q',h1,h2⟩:=look_anyT hq
   obtain ⟨h3,h4⟩:=hA.inv.t j q' h1
   refine ⟨h3,?_⟩
   unfold anyT at h2
   split at h2
   ·rename_i hk
    cases h2
    refine h4.stay hs fun k hk'=>?_
    simp only [List.isEmpty_iff] at hk
    rw [hk] at hk'
    cases hk'
   ·rename_i hk
    cases h2
    have h5:=hidT_look ht h1
    rw [Bool.or_eq_true] at h5
    rcases h5 with h5|h5
    ·exact absurd h5 hk
    ·cases q' with
     | c e=>exact RE.one h4
     | _=>simp [isC] at h5
 ·rw [b0]
  have:ms = #[]:=by apply Array.ext';rw [hms]
  rw [this]
 ·rcases hb with rfl|rfl|⟨h,hh,_⟩
  ·exact b1.lt
  ·exact l0
  ·cases hh
 ·rw [hI1]
  rcases hb with rfl|rfl|⟨h,hh,_⟩
  ·exact o1
  ·exact o0
  ·cases hh
 ·rcases hb with rfl|rfl|⟨h,hh,_⟩
  ·exact .inl ⟨m+1,(show m+1 < Γ.n by omega),c1,rfl⟩
  ·exact .inl ⟨m,(show m < Γ.n by omega),c0,rfl⟩
  ·cases hh
def rowsD (sz:Nat) (l:HRows):List (MK × List D):=l.map fun x=>(x.1,[.sl sz x.2])
theorem hid_shown {N p z:Nat} {X:HidP} {Γ:G} {s:S} {a:Act} {w:World} {l:HRows} (hA:Stands N p Γ s a w) (hg:Grow p X.Γ0 X.w0 Γ w) (hD:DefOk z Γ a w) (hH:Hid X Γ w l) {i:Nat} (hi:s.get i=some (.c (.v (.pointer (some ⟨X.Bx,0,none⟩))))) :
  ∃ Γ',Stands N p Γ' ⟨(i,.c (.ptr (s.o.length+1) 0)) :: s.t,s.o++[.map X.kk false (rowsD X.sz l)]++[.box X.ty [.mp s.o.length]]⟩ a w∧Grow p X.Γ0 X.w0 Γ' w∧DefOk z Γ' a w:=by
 obtain ⟨hs,ms,ck,h1,rfl⟩:=hH
 have e:rowsD X.sz (hs.map HE.pr)=hs.map (HE.row X.sz):=by unfold rowsD;rw [List.map_map];rfl
 rw [e]
 obtain ⟨Γ',g1,g2,g3⟩:=hid_show hA h1.map h1.box h1.prv h1.ne h1.ne2 hg h1.new hi
 refine ⟨Γ',g1,g2,hD.1,hD.2.1,fun d hd=>?_⟩
 obtain ⟨D,d1,d2,d3,d4⟩:=hD.2.2 d hd
 refine ⟨D,d1,d2,g3 D d3 (fun e=>?_) (fun hb=>?_),d4⟩
 ·have:=h1.box
  unfold Blk at this
  rw [← e,d2] at this
  cases this
 ·rcases hb with rfl|⟨h,hh,rfl⟩
  ·have:=h1.map.map
   rw [d2] at this
   cases this
  ·obtain ⟨cur,c1,_⟩:=(h1.map.arr h hh).arr
   unfold Blk at c1
   rw [d2] at c1
   cases c1
def prefB (p:ByteArray):ByteArray:=⟨(prefM p).toArray⟩
structure Ent where
 pat:ByteArray
 mod:ByteArray
 deriving DecidableEq,Inhabited
def Ent.d (y:Ent):List D:=[.v (.string y.pat),.v (.string y.mod)]
def idxPut (l:HRows) (y:Ent):HRows:=if globM y.pat=0 then putR l (.s (prefB y.pat)) y.d else l
def idxOf (E:List Ent):HRows:=E.foldl idxPut []
theorem idxOf_snoc (E:List Ent) (y:Ent):idxOf (E++[y])=idxPut (idxOf E) y:=by unfold idxOf;rw [List.foldl_append];rfl
def rowsAt:HRows → MK → List (List D)
 | [],_=>[]
 | (a,x) :: l,k=>if a=k then x else rowsAt l k
theorem rowsAt_putR (k k':MK) (r:List D):∀ l:HRows,rowsAt (putR l k r) k'=if k=k' then rowsAt l k++[r] else rowsAt l k'
 | []=>by
  unfold putR
  by_cases e:k=k'
  ·simp [rowsAt,e]
  ·simp [rowsAt,e]
 | (a,x) :: l=>by
  unfold putR
  by_cases e:a=k
  ·subst e
   by_cases e2:a=k'
   ·simp [rowsAt,e2]
   ·simp [rowsAt,e2]
  ·rw [if_neg e]
   by_cases e2:a=k'
   ·subst e2
    rw [if_neg (fun h:k=a=>e h.symm)]
    simp [rowsAt]
   ·simp only [rowsAt,if_neg e2,if_neg e]
    exact rowsAt_putR k k' r l
def entAt (E:List Ent) (b:ByteArray):List Ent:=E.filter fun y=>decide (globM y.pat=0) && decide (prefB y.pat=b)
theorem foldl_rows (b:ByteArray):∀ (E:List Ent) (l:HRows),rowsAt (E.foldl idxPut l) (.s b)=rowsAt l (.s b)++(entAt E b).map Ent.d
 | [],l=>by simp [entAt]
 | y :: E,l=>by
  rw [List.foldl_cons,foldl_rows b E]
  unfold idxPut entAt
  by_cases h:globM y.pat=0
  ·rw [if_pos h,rowsAt_putR]
   by_cases e:prefB y.pat=b
   ·simp [h,e]
   ·simp [h,e]
  ·rw [if_neg h]
   simp [h]
theorem rowsAt_idx (E:List Ent) (b:ByteArray):rowsAt (idxOf E) (.s b)=(entAt E b).map Ent.d:=by
 unfold idxOf
 rw [foldl_rows]
 rfl
def foundN (E:List Ent) (s:ByteArray):Nat → List ByteArray
 | 0=>[]
 | n+1=>foundN E s n++((entAt E (s.extract 0 n)).filter fun y=>matchM y.pat s).map Ent.mod
theorem foundN_mem (E:List Ent) (s m:ByteArray):∀ n,m ∈ foundN E s n ↔ ∃ k y,k < n∧y ∈ E∧globM y.pat=0∧prefB y.pat=s.extract 0 k∧matchM y.pat s=true∧y.mod=m
 | 0=>by simp [foundN]
 | n+1=>by
  unfold foundN
  rw [List.mem_append,foundN_mem E s m n,List.mem_map]
  constructor
  ·rintro (⟨k,y,h1,h2⟩|⟨y,h1,h2⟩)
   ·exact ⟨k,y,by omega,h2⟩
   ·rw [List.mem_filter] at h1
    obtain ⟨h3,h4⟩:=h1
    unfold entAt at h3
    rw [List.mem_filter,Bool.and_eq_true,decide_eq_true_eq,decide_eq_true_eq] at h3
    exact ⟨n,y,by omega,h3.1,h3.2.1,h3.2.2,h4,h2⟩
  ·rintro ⟨k,y,h1,h2,h3,h4,h5,h6⟩
   by_cases e:k=n
   ·subst e
    refine .inr ⟨y,?_,h6⟩
    rw [List.mem_filter]
    refine ⟨?_,h5⟩
    unfold entAt
    rw [List.mem_filter,Bool.and_eq_true,decide_eq_true_eq,decide_eq_true_eq]
    exact ⟨h2,h3,h4⟩
   ·exact .inl ⟨k,y,by omega,h2,h3,h4,h5,h6⟩
theorem extract_pref {s:ByteArray} {l:List UInt8} (h:l <+: s.data.toList):s.extract 0 l.length=⟨l.toArray⟩:=by
 have e:(s.extract 0 l.length).data.toList=l:=by
  rw [ByteArray.data_extract,Array.toList_extract,List.extract_eq_take_drop]
  simp only [List.drop_zero,Nat.sub_zero]
  exact (List.prefix_iff_eq_take.1 h).symm
 apply ByteArray.ext
 apply Array.ext'
 rw [e]
theorem found_iff (E:List Ent) (s m:ByteArray):m ∈ foundN E s (s.size+1) ↔ ∃ y ∈ E,matchM y.pat s=true∧y.mod=m:=by
 rw [foundN_mem]
 constructor
 ·rintro ⟨k,y,h1,h2,h3,h4,h5,h6⟩
  exact ⟨y,h2,h5,h6⟩
 ·rintro ⟨y,h1,h2,h3⟩
  obtain ⟨h4,h5⟩:=match_pref h2
  have hl:(prefM y.pat).length≤s.size:=by
   have:=h5.length_le
   rw [Array.length_toList] at this
   exact this
  exact ⟨(prefM y.pat).length,y,by omega,h1,h4,(extract_pref h5).symm,h2,h3⟩
end Go.Proofs.Ythhfpcbpiphfiaa
namespace Go.Proofs.Ythhfpcbpiphfiaa
attribute [local irreducible] PL QL PWPr PCalls Weak RetK Kontr PA
open Go.RowKit
open IntWalk renaming iteOmega → iO, toNatUp → tN
set_option linter.unusedVariables false
set_option linter.unusedSimpArgs false
set_option maxRecDepth 20000
def litD (e:El):List D:=[.v (.int .u8 (e.lit:Int))]
theorem nums_lit (l:List El):nums (l.map litD)=some (l.map fun e=>(e.lit:Int)):=by
 have:l.map litD=(l.map fun e=>(e.lit:Int)).map fun n=>[D.v (.int .u8 n)]:=by rw [List.map_map];rfl
 rw [this,nums_map]
def begB (l:List El):ByteArray:=⟨(beginL l).toArray⟩
theorem begin_take:∀ (l:List El) (k:Nat),k≤l.length → (∀ e ∈ l.take k,e.lit≠0) → (∀ h:k < l.length,l[k].lit=0) → beginL l=(l.take k).map fun e=>UInt8.ofNat e.lit
 | [],k,hk,_,_=>by simp [beginL]
 | e :: l,0,_,_,h=>by
  have:=h (by simp)
  simp only [List.getElem_cons_zero] at this
  simp [beginL,this]
 | e :: l,k+1,hk,h1,h2=>by
  have he:e.lit≠0:=h1 e (by simp)
  unfold beginL
  rw [if_neg he,List.take_succ_cons,List.map_cons,begin_take l k (by simpa using hk) (fun x hx=>h1 x (by simp [hx])) (fun h=>by have:=h2 (by simpa using h);simpa using this)]
theorem begin_str {l:List El} {k:Nat} (hk:k≤l.length) (h:∀ e ∈ l.take k,e.lit≠0) (he:k < l.length → (l.getD k default).lit=0):strOfNums ((l.take k).map fun e=>(e.lit:Int))=begB l:=by
 unfold begB strOfNums
 rw [begin_take l k hk h (fun h=>by have:=he h;rwa [getD_lt l h] at this),List.map_map]
 congr 2
theorem takeLit_snoc {l:List El} {k:Nat} (hk:k < l.length):(l.take (k+1)).map litD=(l.take k).map litD++[litD (l.getD k default)]:=by
 rw [List.take_succ_eq_append_getElem hk,List.map_append,getD_lt l hk];rfl
set_option maxRecDepth 20000 in
set_option maxHeartbeats 4000000 in
theorem gbegin_pure (l:List El) (hl:OkEl l) (hll:l.length≤1000000) :
  PCalls Try.prog 38 [.c (.sl 129 (l.map El.d))] [] fun r os=>r = .c (.v (.string (begB l)))∧os=[]:=by
 refine pcalls_of Try.func38 rfl (by simp [Try.ntmps38]) ?_
 rw [Try.ntmps38,Try.results38]
 push_cast [-List.reduceReplicate,iO,tN]
 have cB:CutB 6 [6,7,8]:=trivial
 repeat' (first|((first|refine pC ?_|refine pQC ?_|refine pU ?_);push_cast [-List.reduceReplicate,iO,tN])|(refine pif (fun h=>?_) (fun h=>?_)<;>first|exact pN h|push_cast [-List.reduceReplicate,iO,tN]))
 refine pwp_weak (weak_adopt 3 5 1 (by omega) (by push_cast [-List.reduceReplicate,iO,tN])) ?_
 push_cast [-List.reduceReplicate,iO,tN]
 (apply pwp_loop3 (α:=Nat) 6 [6,7,8] (fun k=>[(8,.c (.v (.int .i64 k))),(3,.c (.own 0 (k)))]) (fun k=>[(0,.arr 5 1 ((l.take k).map litD))]) (fun k=>k≤l.length∧(∀ e ∈ l.take k,e.lit≠0)) (fun k=>l.length - k) (0);(focus ((try push_cast [-List.reduceReplicate,iO,tN]);rfl));(focus exact ⟨by omega,by simp⟩);(focus ((refine weak_fg ?_;try push_cast [-List.reduceReplicate,iO,tN]))))
 rintro k ⟨hk,hpre⟩
 have htk:((l.take k).map litD).take k=(l.take k).map litD:=List.take_of_length_le (by simp;omega)
 push_cast [-List.reduceReplicate,iO,tN,htk]
 by_cases hlt:k < l.length
 ·have h127:=okEl_get hl hlt
  have hts:=takeLit_snoc hlt
  by_cases h0:(l.getD k default).lit=0
  ·have hstr:=begin_str hk hpre (fun _=>h0)
   have hn:=nums_lit (l.take k)
   refine pwp_weak (weak_frz 0 (Nat.zero_le _)) ?_
   push_cast [-List.reduceReplicate,iO,tN,htk]
   repeat' (first|((first|refine pC ?_|refine pQC ?_|refine pU ?_);push_cast [-List.reduceReplicate,iO,tN,El.d,h0,h127,hn,hstr])|(refine pif (fun h=>?_) (fun h=>?_)<;>first|exact pN h|push_cast [-List.reduceReplicate,iO,tN,El.d,h0,h127,hn,hstr]))
   (refine retK_of [] ?_;push_cast [-List.reduceReplicate,iO,tN])
  ·have hpre2:∀ e ∈ l.take (k+1),e.lit≠0:=fun e he=>by
    rw [List.take_succ_eq_append_getElem hlt,List.mem_append] at he
    rcases he with he|he
    ·exact hpre e he
    ·rw [List.mem_singleton] at he
     subst he
     rwa [getD_lt l hlt] at h0
   have h0':¬ ((l.getD k default).lit:Int)=0:=by omega
   repeat' (first|((first|refine pC ?_|refine pQC ?_|refine pU ?_);push_cast [-List.reduceReplicate,iO,tN,El.d,h0',h127,htk])|(refine pif (fun h=>?_) (fun h=>?_)<;>first|exact pN h|push_cast [-List.reduceReplicate,iO,tN,El.d,h0',h127,htk]))
   exact ⟨k+1,⟨by omega,hpre2⟩,by (refine weak_fg ?_;push_cast [-List.reduceReplicate,iO,tN,hts,litD]),by omega⟩
 ·have hstr:=begin_str hk hpre (fun h=>absurd h hlt)
  have hn:=nums_lit (l.take k)
  refine pwp_weak (weak_frz 0 (Nat.zero_le _)) ?_
  push_cast [-List.reduceReplicate,iO,tN,htk]
  repeat' (first|((first|refine pC ?_|refine pQC ?_|refine pU ?_);push_cast [-List.reduceReplicate,iO,tN,hn,hstr])|(refine pif (fun h=>?_) (fun h=>?_)<;>first|exact pN h|push_cast [-List.reduceReplicate,iO,tN,hn,hstr]))
  (refine retK_of [] ?_;push_cast [-List.reduceReplicate,iO,tN])
theorem altGo_ne {p:ByteArray} {i:Nat} {l:List (List El)} {x:List El}:altGo p i l x≠some []:=by
 fun_induction altGo p i l x<;>first
  | (intro h;cases h;done)
  | (intro h;injection h with h;simp at h;done)
  | (rename_i ih;exact ih)
theorem altsM_ne (p:ByteArray):¬ altsM p=some []:=altGo_ne
theorem cpre_cut:∀ (a b:List UInt8) (n:Nat),n≤a.length → n≤b.length → a.take n=b.take n → (∀ (h1:n < a.length) (h2:n < b.length),a[n]≠b[n]) → cpre a b=a.take n
 | [],[],n,_,_,_,_=>by simp [cpre]
 | [],_ :: _,n,h,_,_,_=>by simp [cpre]
 | _ :: _,[],n,_,h,_,_=>by
  have h0:n=0:=by simpa using h
  subst h0
  simp [cpre]
 | x :: a,y :: b,0,_,_,_,h=>by
  have:=h (by simp) (by simp)
  simp only [List.getElem_cons_zero] at this
  simp [cpre,this]
 | x :: a,y :: b,n+1,h1,h2,h3,h4=>by
  simp only [List.take_succ_cons,List.cons.injEq] at h3
  obtain ⟨rfl,h3⟩:=h3
  unfold cpre
  rw [if_pos rfl,List.take_succ_cons,cpre_cut a b n (by simpa using h1) (by simpa using h2) h3 (fun h5 h6=>by have:=h4 (by simpa using h5) (by simpa using h6);simpa using this)]
def cpreB (q s:ByteArray):ByteArray:=⟨(cpre q.data.toList s.data.toList).toArray⟩
theorem cpreB_cut {q s:ByteArray} {n:Nat} (h1:n≤q.size) (h2:n≤s.size) (h3:q.data.toList.take n=s.data.toList.take n) (h4:n < q.size → n < s.size → s.data.toList.getD n 0≠q.data.toList.getD n 0):q.extract 0 n=cpreB q s:=by
 have hq:q.data.toList.length=q.size:=rfl
 have hs:s.data.toList.length=s.size:=rfl
 unfold cpreB
 rw [cpre_cut q.data.toList s.data.toList n (by omega) (by omega) h3 (fun h5 h6=>by
  have:=h4 (by omega) (by omega)
  rw [List.getD_eq_getElem?_getD,List.getD_eq_getElem?_getD,List.getElem?_eq_getElem h5,List.getElem?_eq_getElem h6] at this
  exact fun e=>this e.symm)]
 apply ByteArray.ext
 apply Array.ext'
 rw [ByteArray.data_extract,Array.toList_extract,List.extract_eq_take_drop]
 simp
def preB (x:List El) (r:List (List El)) (k:Nat):ByteArray:=⟨((r.take k).foldl (fun a y=>cpre a (beginL y)) (beginL x)).toArray⟩
theorem preB_next {x:List El} {r:List (List El)} {k:Nat} (hk:k < r.length):preB x r (k+1)=cpreB (preB x r k) (begB (r.getD k default)):=by
 unfold preB cpreB begB
 rw [List.take_succ_eq_append_getElem hk,List.foldl_append,getD_lt r hk]
 rfl
theorem cpre_len (a b:List UInt8):(cpre a b).length≤a.length:=(cpre_left a b).length_le
theorem begin_len:∀ l:List El,(beginL l).length≤l.length
 | []=>by simp [beginL]
 | e :: l=>by
  unfold beginL
  split
  ·simp
  ·have:=begin_len l
   simp only [List.length_cons]
   omega
theorem preB_size (x:List El) (r:List (List El)) (k:Nat):(preB x r k).size≤x.length:=by
 have h:∀ (r:List (List El)) (a:List UInt8),(r.foldl (fun a y=>cpre a (beginL y)) a).length≤a.length:=fun r=>by
  induction r with
  | nil=>intro a;exact Nat.le_refl _
  | cons y r ih=>intro a;rw [List.foldl_cons];exact Nat.le_trans (ih _) (cpre_len _ _)
 have h2:=h (r.take k) (beginL x)
 have h3:=begin_len x
 have h4:(preB x r k).size=((r.take k).foldl (fun a y=>cpre a (beginL y)) (beginL x)).length:=by unfold preB ByteArray.size;simp
 omega
theorem begB_size (l:List El):(begB l).size≤l.length:=by
 have:(begB l).size=(beginL l).length:=by unfold begB ByteArray.size;simp
 have:=begin_len l
 omega
theorem take_same {a b:List UInt8} {n:Nat} (h1:n < a.length) (h2:n < b.length) (h:a.take n=b.take n) (he:b.getD n 0=a.getD n 0):a.take (n+1)=b.take (n+1):=by
 rw [List.getD_eq_getElem?_getD,List.getD_eq_getElem?_getD,List.getElem?_eq_getElem h1,List.getElem?_eq_getElem h2] at he
 rw [List.take_succ_eq_append_getElem h1,List.take_succ_eq_append_getElem h2,h]
 simp only [Option.getD_some] at he
 rw [he]
set_option maxRecDepth 20000 in
set_option maxHeartbeats 4000000 in
theorem prefix_pure (p:ByteArray) (hf:p.size≤9223372036854775807) :
  PCalls Try.prog 24 [.c (.v (.string p))] [] fun r os=>r = .two (.c (.v (.string (if globM p=0 then prefB p else ⟨#[]⟩)))) (.c (.v (.int .i64 (globM p))))∧os=[]:=by
 have hp:=parse_pure p hf
 unfold parseR at hp
 refine pcalls_of Try.func24 rfl (by simp [Try.ntmps24]) ?_
 rw [Try.ntmps24,Try.results24]
 push_cast [-List.reduceReplicate,iO,tN]
 have cB:CutB 12 [24,25,26]:=trivial
 by_cases h0:globM p=0
 case neg =>
  rw [if_neg h0] at hp
  repeat' (first|((refine plc [] (hp) ?_ ?_;push_cast [-List.reduceReplicate,iO,tN,h0];rintro r os ⟨rfl,rfl⟩;push_cast [-List.reduceReplicate,iO,tN,h0]))|((first|refine pC ?_|refine pQC ?_|refine pU ?_);push_cast [-List.reduceReplicate,iO,tN,h0])|(refine pif (fun h=>?_) (fun h=>?_)<;>first|exact pN h|push_cast [-List.reduceReplicate,iO,tN,h0]))
  (refine retK_of [] ?_;push_cast [-List.reduceReplicate,iO,tN,h0])
 rw [if_pos h0,h0] at hp
 obtain ⟨L,hL⟩:∃ L,altsM p=some L:=by
  unfold globM at h0
  split at h0
  ·cases h0
  ·split at h0
   ·cases h0
   ·cases e:altsM p with
    | none=>rw [e] at h0;simp at h0
    | some L=>exact ⟨L,rfl⟩
 rw [hL] at hp
 simp only [Option.getD_some] at hp
 have hok:=altsM_ok hL
 have hps:p.size≤256:=by
  unfold globM at h0
  split at h0
  ·cases h0
  ·omega
 have hlen:L.length≤p.size+1:=altGo_len (Nat.zero_le _) (Nat.zero_le _) hL
 cases L with
 | nil=>exact absurd hL (altsM_ne p)
 | cons x r =>
 have hlen2:r.length≤256:=by simp only [List.length_cons] at hlen;omega
 have hx:=hok x (by simp)
 have hbx:=gbegin_pure x hx.1 (by omega)
 have hRx:prefB p=preB x r r.length:=by
  unfold prefB prefM preB
  rw [hL,List.take_length]
  rfl
 repeat' (first|((refine plc [] (hp) ?_ ?_;push_cast [-List.reduceReplicate,iO,tN,altsD];rintro r os ⟨rfl,rfl⟩;push_cast [-List.reduceReplicate,iO,tN,altsD]))|((refine plc [] (hbx) ?_ ?_;push_cast [-List.reduceReplicate,iO,tN,altsD];rintro r os ⟨rfl,rfl⟩;push_cast [-List.reduceReplicate,iO,tN,altsD]))|((first|refine pC ?_|refine pQC ?_|refine pU ?_);push_cast [-List.reduceReplicate,iO,tN,altsD])|(refine pif (fun h=>?_) (fun h=>?_)<;>first|exact pN h|push_cast [-List.reduceReplicate,iO,tN,altsD]))
 have hpz:preB x r 0=begB x:=rfl
 (apply pwp_loop3 (α:=Nat) 12 [24,25,26] (fun k=>[(26,.c (.v (.int .i64 k))),(6,.c (.v (.string (preB x r k))))]) (fun k=>[]) (fun k=>k≤r.length) (fun k=>r.length - k) (0);(focus ((try push_cast [-List.reduceReplicate,iO,tN]);rfl));(focus exact (by omega));(focus ((refine weak_fg ?_;try push_cast [-List.reduceReplicate,iO,tN]);(try (exact hpz.symm)))))
 intro k hk
 have hsz:=preB_size x r k
 push_cast [-List.reduceReplicate,iO,tN]
 by_cases hlt:k < r.length
 ·have hy:=hok (r.getD k default) (by rw [getD_lt r hlt];simp)
  have hby:=gbegin_pure (r.getD k default) hy.1 (by omega)
  have hys:=begB_size (r.getD k default)
  have hnx:=preB_next (x:=x) hlt
  obtain ⟨q,hq⟩:∃ q,preB x r k=q:=⟨_,rfl⟩
  obtain ⟨s,hs⟩:∃ s,begB (r.getD k default)=s:=⟨_,rfl⟩
  rw [hq] at hsz hnx ⊢
  rw [hs] at hby hys hnx
  repeat' (first |  ((refine plc [] (hby) ?_ ?_;push_cast [-List.reduceReplicate,iO,tN];rintro r os ⟨rfl,rfl⟩;push_cast [-List.reduceReplicate,iO,tN]))  | ((first|refine pC ?_|refine pQC ?_|refine pU ?_);push_cast [-List.reduceReplicate,iO,tN])|(refine pif (fun h=>?_) (fun h=>?_)<;>first|exact pN h|push_cast [-List.reduceReplicate,iO,tN]))
  (apply pwp_loop3 (α:=Nat) 12 [24,25,26] (fun n=>[(10,.c (.v (.int .i64 n)))]) (fun n=>[]) (fun n=>n≤q.size∧n≤s.size∧q.data.toList.take n=s.data.toList.take n) (fun n=>q.size - n) (0);(focus ((try push_cast [-List.reduceReplicate,iO,tN]);rfl));(focus exact ⟨by omega,by omega,rfl⟩);(focus ((refine weak_fg ?_;try push_cast [-List.reduceReplicate,iO,tN]))))
  rintro n ⟨h1,h2,h3⟩
  push_cast [-List.reduceReplicate,iO,tN]
  by_cases hl2:n < q.size∧n < s.size
  ·have hmin:(n:Int) < (if (q.size:Int) < (s.size:Int) then (q.size:Int) else (s.size:Int)):=by split<;>omega
   by_cases hb:s.data.toList.getD n 0=q.data.toList.getD n 0
   ·have h3':=take_same (show n < q.data.toList.length from hl2.1) (show n < s.data.toList.length from hl2.2) h3 hb
    repeat' (first|(refine ql_min rfl rfl rfl rfl (by push_cast [-List.reduceReplicate,iO,tN,hmin,hb]) ?_;refine ql_of_qops ?_;push_cast [-List.reduceReplicate,iO,tN,hmin,hb])|((first|refine pC ?_|refine pQC ?_|refine pU ?_);push_cast [-List.reduceReplicate,iO,tN,hmin,hb])|(refine pif (fun h=>?_) (fun h=>?_)<;>first|exact pN h|push_cast [-List.reduceReplicate,iO,tN,hmin,hb]))
    exact ⟨n+1,⟨by omega,by omega,h3'⟩,by (refine weak_fg ?_;push_cast [-List.reduceReplicate,iO,tN]),by omega⟩
   ·have hcut:=cpreB_cut h1 h2 h3 (fun _ _=>hb)
    have hb':¬ ((s.data.toList.getD n 0).toNat:Int)=((q.data.toList.getD n 0).toNat:Int):=fun e=>hb (UInt8.toNat_inj.1 (by omega))
    repeat' (first|(refine ql_min rfl rfl rfl rfl (by push_cast [-List.reduceReplicate,iO,tN,hmin,hb']) ?_;refine ql_of_qops ?_;push_cast [-List.reduceReplicate,iO,tN,hmin,hb'])|((first|refine pC ?_|refine pQC ?_|refine pU ?_);push_cast [-List.reduceReplicate,iO,tN,hmin,hb'])|(refine pif (fun h=>?_) (fun h=>?_)<;>first|exact pN h|push_cast [-List.reduceReplicate,iO,tN,hmin,hb']))
    exact ⟨k+1,by omega,by (refine weak_fg ?_;push_cast [-List.reduceReplicate,iO,tN,hnx,hcut]),by omega⟩
  ·have hmin:¬ (n:Int) < (if (q.size:Int) < (s.size:Int) then (q.size:Int) else (s.size:Int)):=by split<;>omega
   have hcut:=cpreB_cut h1 h2 h3 (fun h5 h6=>absurd ⟨h5,h6⟩ hl2)
   repeat' (first|(refine ql_min rfl rfl rfl rfl (by push_cast [-List.reduceReplicate,iO,tN,hmin]) ?_;refine ql_of_qops ?_;push_cast [-List.reduceReplicate,iO,tN,hmin])|((first|refine pC ?_|refine pQC ?_|refine pU ?_);push_cast [-List.reduceReplicate,iO,tN,hmin])|(refine pif (fun h=>?_) (fun h=>?_)<;>first|exact pN h|push_cast [-List.reduceReplicate,iO,tN,hmin]))
   exact ⟨k+1,by omega,by (refine weak_fg ?_;push_cast [-List.reduceReplicate,iO,tN,hnx,hcut]),by omega⟩
 ·have hk2:k=r.length:=by omega
  subst hk2
  repeat' (first|((first|refine pC ?_|refine pQC ?_|refine pU ?_);push_cast [-List.reduceReplicate,iO,tN])|(refine pif (fun h=>?_) (fun h=>?_)<;>first|exact pN h|push_cast [-List.reduceReplicate,iO,tN]))
  (refine retK_of [] ?_;push_cast [-List.reduceReplicate,iO,tN,hRx,h0])
end Go.Proofs.Ythhfpcbpiphfiaa
namespace Go.Proofs.Ythhfpcbpiphfiaa
open Go.RowKit
open IntWalk renaming iteOmega → iO, toNatUp → tN
set_option linter.unusedVariables false
set_option linter.unusedSimpArgs false
structure Mod where
 name:ByteArray
 aliases:List ByteArray
 needs:List ByteArray
 pre:List ByteArray
 post:List ByteArray
 fails:Bool
 deriving DecidableEq,Inhabited
def Mod.d (m:Mod):List D:=[.v (.string m.name),.sl 1 (m.aliases.map strD),.sl 1 (m.needs.map strD),.sl 1 (m.pre.map strD),.sl 1 (m.post.map strD),.v (.bool m.fails)]
structure Ext2 where
 name:ByteArray
 value:ByteArray
 deriving DecidableEq,Inhabited
def Ext2.d (x:Ext2):List D:=[.v (.string x.name),.v (.string x.value)]
structure Cfg where
 modules:List Mod
 blocked:List ByteArray
 off:List ByteArray
 keep:List ByteArray
 extra:List Ext2
 deriving DecidableEq,Inhabited
def Cfg.d (c:Cfg):List D:=[.sl 6 (c.modules.map Mod.d),.sl 1 (c.blocked.map strD),.sl 1 (c.off.map strD),.sl 1 (c.keep.map strD),.sl 2 (c.extra.map Ext2.d)]
attribute [push_cast] Mod.d Ext2.d Cfg.d
def modOf (l:List Mod) (n:ByteArray):Option Mod:=l.find? fun m=>decide (m.name=n)
def noMod:Mod:=⟨⟨#[]⟩,[],[],[],[],false⟩
def Mod.e (m:Mod):List E:=m.d.map D.e
attribute [push_cast] Mod.e
end Go.Proofs.Ythhfpcbpiphfiaa
namespace Go.Proofs.Ythhfpcbpiphfiaa
attribute [local irreducible] PL QL PWPr PCalls Weak RetK Kontr
open Go.RowKit
open IntWalk renaming iteOmega → iO, toNatUp → tN
set_option linter.unusedVariables false
set_option linter.unusedSimpArgs false
set_option maxRecDepth 20000
theorem in_pure (l:List ByteArray) (s:ByteArray) (hl:l.length≤9223372036854775807) :
  PCalls Try.prog 17 [.c (.sl 1 (l.map strD)),.c (.v (.string s))] [] fun r os=>r = .c (.v (.bool (inM s l)))∧os=[]:=by
 refine pcalls_of Try.func17 rfl (by simp [Try.ntmps17]) ?_
 rw [Try.ntmps17,Try.results17]
 push_cast [iO,tN]
 repeat' (first|((first|refine pG ?_|refine pQ ?_|refine pU ?_);push_cast [iO,tN])|(refine pif (fun h=>?_) (fun h=>?_)<;>first|exact pN h|push_cast [iO,tN]))
 refine pwp_loop2 (α:=Nat) (fun k=>k≤l.length∧s ∉ l.take k) (fun k=>⟨[(5,.c (.v (.int .i64 k))),(0,.c (.sl 1 (l.map strD))),(1,.c (.v (.string s)))],[]⟩) (fun k=>l.length - k) 0 ⟨by omega,by simp⟩ (by (refine weak_fg ?_;push_cast [iO,tN])) ?_
 rintro k ⟨hk,hpre⟩
 by_cases hlt:k < l.length
 ·have e1:=getD_lt l hlt
  repeat' (first|((first|refine pG ?_|refine pQ ?_|refine pU ?_);push_cast [iO,tN])|(refine pif (fun h=>?_) (fun h=>?_)<;>first|exact pN h|push_cast [iO,tN]))
  ·(refine retK_of [] ?_;push_cast [iO,tN])
   rw [e1] at h
   subst h
   exact (inM_iff.2 (List.getElem_mem _)).symm
  ·refine ⟨k+1,⟨by omega,?_⟩,by (refine weak_fg ?_;push_cast [iO,tN]),by omega⟩
   rw [e1] at h
   rw [List.take_succ_eq_append_getElem hlt]
   simp only [List.mem_append,List.mem_singleton,not_or]
   exact ⟨hpre,fun e=>h e.symm⟩
 ·repeat' (first|((first|refine pG ?_|refine pQ ?_|refine pU ?_);push_cast [iO,tN])|(refine pif (fun h=>?_) (fun h=>?_)<;>first|exact pN h|push_cast [iO,tN]))
  (refine retK_of [] ?_;push_cast [iO,tN])
  rw [List.take_of_length_le (by omega)] at hpre
  exact (inM_false.2 hpre).symm
def Mod.w (m:Mod):List E:=[.v (.string ⟨#[]⟩),.v (.slice none 0 0),.v (.slice none 0 0),.v (.slice none 0 0),.v (.slice none 0 0),.v (.bool false)]
attribute [push_cast] Mod.w
theorem module_pure (l:List Mod) (n:ByteArray) (hl:l.length≤9223372036854775807) :
  PCalls Try.prog 18 [.c (.sl 6 (l.map Mod.d)),.c (.v (.string n))] [] fun r os=>r = .two (.agg ((modOf l n).getD noMod).e) (.c (.v (.bool (modOf l n).isSome)))∧os=[]:=by
 refine pcalls_of Try.func18 rfl (by simp [Try.ntmps18]) ?_
 rw [Try.ntmps18,Try.results18]
 push_cast [iO,tN]
 repeat' (first|((first|refine pG ?_|refine pQ ?_|refine pU ?_);push_cast [iO,tN])|(refine pif (fun h=>?_) (fun h=>?_)<;>first|exact pN h|push_cast [iO,tN]))
 refine pwp_loop2 (α:=Nat) (fun k=>k≤l.length∧∀ x ∈ l.take k,x.name≠n) (fun k=>⟨[(6,.c (.v (.int .i64 k))),(5,.c (.v (.bool false))),(4,.c (.ptr 0 0)),(0,.c (.sl 6 (l.map Mod.d))),(1,.c (.v (.string n)))],[.box 46 noMod.w]⟩) (fun k=>l.length - k) 0 ⟨by omega,by simp⟩ (by (refine weak_fg ?_;push_cast [iO,tN])) ?_
 rintro k ⟨hk,hpre⟩
 by_cases hlt:k < l.length
 ·have e1:=getD_lt l hlt
  repeat' (first|((first|refine pG ?_|refine pQ ?_|refine pU ?_);push_cast [iO,tN])|(refine pif (fun h=>?_) (fun h=>?_)<;>first|exact pN h|push_cast [iO,tN]))
  ·(refine retK_of [] ?_;push_cast [iO,tN])
   rw [e1] at h
   have hf:modOf l n=some l[k]:=by
    unfold modOf
    rw [List.find?_eq_some_iff_append]
    refine ⟨by simpa using h,l.take k,l.drop (k+1),by rw [← List.drop_eq_getElem_cons hlt,List.take_append_drop],fun x hx=>by simpa using hpre x hx⟩
   rw [e1,hf]
   simp
  ·refine ⟨k+1,⟨by omega,?_⟩,by (refine weak_fg ?_;push_cast [iO,tN]),by omega⟩
   rw [e1] at h
   rw [List.take_succ_eq_append_getElem hlt]
   intro x hx
   rcases List.mem_append.1 hx with hx|hx
   ·exact hpre x hx
   ·simp only [List.mem_singleton] at hx
    subst hx
    exact h
 ·repeat' (first|((first|refine pG ?_|refine pQ ?_|refine pU ?_);push_cast [iO,tN])|(refine pif (fun h=>?_) (fun h=>?_)<;>first|exact pN h|push_cast [iO,tN]))
  (refine retK_of [] ?_;push_cast [iO,tN])
  have hf:modOf l n=none:=by
   rw [List.take_of_length_le (by omega)] at hpre
   unfold modOf
   rw [List.find?_eq_none]
   intro x hx
   simpa using hpre x hx
  rw [hf]
  simp [noMod]
def putM (l:List ByteArray) (s:ByteArray):List ByteArray :=
 let i:=(l.takeWhile fun x=>bless x s).length
 if l.getD i default=s∧i < l.length then l else l.take i++s :: l.drop i
end Go.Proofs.Ythhfpcbpiphfiaa
namespace Go.Proofs.Ythhfpcbpiphfiaa
attribute [local irreducible] PL QL PWPr PCalls Weak RetK Kontr PA
open Go.RowKit
open IntWalk renaming iteOmega → iO, toNatUp → tN
set_option linter.unusedVariables false
set_option linter.unusedSimpArgs false
set_option maxRecDepth 20000
end Go.Proofs.Ythhfpcbpiphfiaa
