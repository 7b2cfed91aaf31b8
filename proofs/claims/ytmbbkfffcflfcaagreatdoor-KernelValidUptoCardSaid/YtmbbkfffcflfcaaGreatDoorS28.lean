/- What the program computes, and the plain laws of it, part 28. -/
import Derived.WideKeyEntry
import Derived.Test.YtmbbkfffcflfcaaGreatDoorS24
import Derived.Test.YtmbbkfffcflfcaaGreatDoorS27
namespace Go.Proofs.YtmbbkfffcflfcaaGreatDoor
open Go.RowKit
open IntWalk renaming iteOmega → O, toNatUp → U
set_option linter.unusedVariables false
set_option linter.unusedSimpArgs false
def EvN (l:List Evt):Prop:=∀ i,i < l.length → (l.getD i default).seq=(i:Int)+1
theorem EvN.nil:EvN []:=fun i h=>by simp at h
theorem EvN.snoc {l:List Evt} (h:EvN l) (a ix:Int) (p o:ByteArray):EvN (l++[⟨(l.length:Int)+1,a,ix,p,o⟩]):=fun i hi=>by
 rw [List.length_append,List.length_singleton] at hi
 by_cases e:i=l.length
 ·subst e
  rw [List.getD_eq_getElem?_getD,List.getElem?_append_right (Nat.le_refl _)]
  simp
 ·rw [List.getD_eq_getElem?_getD,List.getElem?_append_left (by omega),← List.getD_eq_getElem?_getD]
  exact h i (by omega)
inductive TellL:List Evt → List Int → Int → Prop
 | nil:TellL [] [] 0
 | add {es:List Evt} {L:List Int} {t:Int} (h:TellL es L t) (e:Evt) (h1:e.act=1) (h2:t < e.idx) (h3:e.idx ∉ L):TellL (es++[e]) (L++[e.idx]) e.idx
 | rem {es:List Evt} {L:List Int} {t:Int} (h:TellL es L t) (e:Evt) (h1:e.act=2) (h2:e.idx ∈ L):TellL (es++[e]) (L.erase e.idx) t
 | oth {es:List Evt} {L:List Int} {t:Int} (h:TellL es L t) (e:Evt) (h1:e.act≠1) (h2:e.act≠2) (h3:e.idx ∈ L):TellL (es++[e]) L t
theorem TellL.nodup {es:List Evt} {L:List Int} {t:Int} (h:TellL es L t):L.Nodup:=by
 induction h with
 | nil=>exact List.nodup_nil
 | add h e h1 h2 h3 ih =>
  rw [List.nodup_append]
  exact ⟨ih,by simp,fun a ha b hb=>by rw [List.mem_singleton] at hb;rw [hb];exact fun e=>h3 (e ▸ ha)⟩
 | rem h e h1 h2 ih=>exact ih.erase _
 | oth h e h1 h2 h3 ih=>exact ih
theorem TellL.take {es:List Evt} {L:List Int} {t:Int} (h:TellL es L t) (n:Nat):∃ L' t',TellL (es.take n) L' t':=by
 induction h with
 | nil=>exact ⟨[],0,by rw [List.take_nil];exact TellL.nil⟩
 | @add es L t h e h1 h2 h3 ih =>
  by_cases hn:n≤es.length
  ·rw [List.take_append_of_le_length hn];exact ih
  ·rw [List.take_of_length_le (by rw [List.length_append,List.length_singleton];omega)]
   exact ⟨_,_,TellL.add h e h1 h2 h3⟩
 | @rem es L t h e h1 h2 ih =>
  by_cases hn:n≤es.length
  ·rw [List.take_append_of_le_length hn];exact ih
  ·rw [List.take_of_length_le (by rw [List.length_append,List.length_singleton];omega)]
   exact ⟨_,_,TellL.rem h e h1 h2⟩
 | @oth es L t h e h1 h2 h3 ih =>
  by_cases hn:n≤es.length
  ·rw [List.take_append_of_le_length hn];exact ih
  ·rw [List.take_of_length_le (by rw [List.length_append,List.length_singleton];omega)]
   exact ⟨_,_,TellL.oth h e h1 h2 h3⟩
structure KerI (k:Ker):Prop where
 tree:TreeV k.tree
 top0:0≤k.top
 top:∀ d ∈ k.tree,d.index≤k.top
 evn:EvN k.evs
 tell:∃ L t,TellL k.evs L t∧t≤k.top∧L.Perm (k.tree.map Dev.index)
 mods:∀ m ∈ k.mods,validS m.name=true
 load:∀ s ∈ k.loaded,∃ m,modOf k.mods s=some m∧m.fails=false∧∀ n ∈ m.needs,n ∈ k.loaded
 lnd:k.loaded.Nodup
 slf:∀ s ∈ k.loaded,∀ m,modOf k.mods s=some m → s ∉ m.needs
theorem modOf_name {l:List Mod} {n:ByteArray} {m:Mod} (h:modOf l n=some m):m ∈ l∧m.name=n :=
 ⟨List.mem_of_find?_eq_some h,by simpa using List.find?_some h⟩
theorem KerI.new {mods:List Mod} (h:∀ m ∈ mods,validS m.name=true):KerI ⟨[],mods,[],[],0⟩ :=
 ⟨TreeV.nil,Int.le_refl _,(fun d hd=>by cases hd),EvN.nil,⟨[],0,TellL.nil,Int.le_refl _,List.Perm.refl _⟩,h,(fun s hs=>by cases hs),List.nodup_nil,(fun s hs=>by cases hs)⟩
theorem KerI.emit {k:Ker} (h:KerI k) {a ix:Int} (o:ByteArray) (h1:a≠1) (h2:a≠2) (hix:∃ d ∈ k.tree,d.index=ix):KerI (k.emit a ix o):=by
 obtain ⟨L,t,h3,h4,h5⟩:=h.tell
 refine ⟨h.tree,h.top0,h.top,h.evn.snoc _ _ _ _,⟨L,t,TellL.oth h3 _ h1 h2 ?_,h4,h5⟩,h.mods,h.load,h.lnd,h.slf⟩
 obtain ⟨d,hd,rfl⟩:=hix
 exact h5.mem_iff.2 (List.mem_map.2 ⟨d,hd,rfl⟩)
theorem chg_ixs {l:List Dev} (hn:(l.map Dev.index).Nodup) {d:Dev} (he:chgErr l d=0):(chgT l d).map Dev.index=l.map Dev.index:=by
 obtain ⟨o,hc⟩:=chg_split hn he
 rw [hc.eq]
 exact hc.kp.ixs l
theorem KerI.chg {k:Ker} (h:KerI k) {d:Dev} (he:chgErr k.tree d=0):KerI (k.withT (chgT k.tree d)):=by
 have hi:=chg_ixs h.tree.okt.nodup he
 refine ⟨h.tree.chg he,h.top0,fun x hx=>?_,h.evn,?_,h.mods,h.load,h.lnd,h.slf⟩
 ·have hm:x.index ∈ (chgT k.tree d).map Dev.index:=List.mem_map.2 ⟨x,hx,rfl⟩
  rw [hi] at hm
  obtain ⟨y,hy,e⟩:=List.mem_map.1 hm
  rw [← e];exact h.top y hy
 ·obtain ⟨L,t,h3,h4,h5⟩:=h.tell
  exact ⟨L,t,h3,h4,by show L.Perm ((chgT k.tree d).map Dev.index);rw [hi];exact h5⟩
theorem chg_has {l:List Dev} (hn:(l.map Dev.index).Nodup) {d:Dev} (he:chgErr l d=0):∃ x ∈ chgT l d,x.index=d.index:=by
 obtain ⟨o,hc⟩:=chg_split hn he
 refine ⟨d,?_,rfl⟩
 rw [hc.eq]
 exact List.mem_map.2 ⟨o,hc.mem,by unfold chgF;rw [if_pos rfl]⟩
theorem KerI.drive {k:Ker} (h:KerI k) (d:Dev) (v:ByteArray):KerI (k.drive d v).1:=by
 unfold Ker.drive
 by_cases he:chgErr k.tree (drvD d v)=0
 ·rw [if_pos he]
  refine (h.chg he).emit _ ?_ ?_ (chg_has h.tree.okt.nodup he)
  all_goals split<;>decide
 ·rw [if_neg he];exact h
theorem KerI.put {k:Ker} (h:KerI k) {d:Dev} (he:insErr k.tree d=0) (hi:d.index=k.top+1):KerI (k.put d):=by
 obtain ⟨L,t,h3,h4,h5⟩:=h.tell
 have hmem:∀ x ∈ insT k.tree d,x=d∨x ∈ k.tree:=fun x hx=>insT_in.1 hx
 have h0:=h.top0
 refine ⟨h.tree.ins he,by show (0:Int)≤d.index;omega,fun x hx=>?_,h.evn.snoc _ _ _ _,⟨L++[d.index],d.index,TellL.add h3 _ rfl (show t < d.index by omega) ?_,Int.le_refl _,?_⟩,h.mods,h.load,h.lnd,h.slf⟩
 ·show x.index≤d.index
  rcases hmem x hx with e|hx'
  ·rw [e];exact Int.le_refl _
  ·have:=h.top x hx';omega
 ·intro hm
  obtain ⟨x,hx,e⟩:=List.mem_map.1 (h5.mem_iff.1 hm)
  have:=h.top x hx
  have e:x.index=d.index:=e
  omega
 ·show (L++[d.index]).Perm ((insT k.tree d).map Dev.index)
  have hp:(insT k.tree d).Perm (d :: k.tree):=by unfold insT;exact put_perm _ _ _
  refine (List.perm_append_comm.trans ?_).trans (hp.map Dev.index).symm
  rw [List.map_cons,List.singleton_append]
  exact h5.cons _
theorem rem_evn (l:List Dev):∀ (ds:List Dev) {es:List Evt},EvN es → EvN (es++remEvs l es.length ds)
 | [],es,h=>by rw [remEvs,List.append_nil];exact h
 | d :: ds,es,h=>by
  rw [remEvs]
  have h1:=h.snoc 2 d.index (pathM l d.index) ⟨#[]⟩
  have h2:=rem_evn l ds h1
  rw [List.append_assoc,List.length_append,List.length_singleton] at h2
  exact h2
theorem rem_tell (l:List Dev):∀ (ds:List Dev) {es:List Evt} {L:List Int} {t:Int},TellL es L t → (ds.map Dev.index).Nodup → (∀ d ∈ ds,d.index ∈ L) → ∃ L',TellL (es++remEvs l es.length ds) L' t∧(ds.map Dev.index++L').Perm L
 | [],es,L,t,h,_,_=>⟨L,by rw [remEvs,List.append_nil];exact h,List.Perm.refl _⟩
 | d :: ds,es,L,t,h,hn,hm=>by
  rw [List.map_cons,List.nodup_cons] at hn
  have hd:=hm d (List.mem_cons_self ..)
  have h1:=TellL.rem h ⟨(es.length:Int)+1,2,d.index,pathM l d.index,⟨#[]⟩⟩ rfl hd
  obtain ⟨L',h2,h3⟩:=rem_tell l ds h1 hn.2 fun x hx=>by
   refine (List.mem_erase_of_ne ?_).2 (hm x (List.mem_cons_of_mem _ hx))
   exact fun e=>hn.1 (List.mem_map.2 ⟨x,hx,e⟩)
  refine ⟨L',?_,?_⟩
  ·rw [List.append_assoc,List.length_append,List.length_singleton] at h2
   rw [remEvs]
   exact h2
  ·rw [List.map_cons,List.cons_append]
   exact (h3.cons _).trans (List.perm_cons_erase hd).symm
theorem KerI.remove {k:Ker} (h:KerI k) (d:Dev):KerI (k.remove d).1:=by
 obtain ⟨L,t,h3,h4,h5⟩:=h.tell
 have hsub:(k.tree.filter fun x=>belowM k.tree x.index d.index).Sublist k.tree:=List.filter_sublist
 obtain ⟨L',h6,h7⟩:=rem_tell k.tree (subtM k.tree d.index).reverse h3 (by
  rw [List.map_reverse]
  exact (List.reverse_perm _).symm.nodup ((hsub.map Dev.index).nodup h.tree.okt.nodup)) fun x hx=>h5.mem_iff.2 (List.mem_map.2 ⟨x,hsub.subset (List.mem_reverse.1 hx),rfl⟩)
 refine ⟨h.tree.rem d.index,h.top0,fun x hx=>h.top x (List.mem_filter.1 hx).1,rem_evn _ _ h.evn,⟨L',t,h6,h4,?_⟩,h.mods,h.load,h.lnd,h.slf⟩
 show L'.Perm ((remT k.tree d.index).map Dev.index)
 have h8:(k.tree.map Dev.index).Perm ((subtM k.tree d.index).map Dev.index++(remT k.tree d.index).map Dev.index):=by
  rw [← List.map_append]
  exact (List.filter_append_perm (fun x=>belowM k.tree x.index d.index) k.tree).symm.map _
 have h9:((subtM k.tree d.index).map Dev.index++L').Perm ((subtM k.tree d.index).map Dev.index++(remT k.tree d.index).map Dev.index):=by
  refine List.Perm.trans ?_ (h7.trans (h5.trans h8))
  rw [List.map_reverse]
  exact (List.reverse_perm _).symm.append_right _
 exact (List.perm_append_left_iff _).1 h9
theorem at_in {l:List Dev} {p:ByteArray} {d:Dev} (h:atD l p=some d):d ∈ l:=List.mem_of_find?_eq_some h
theorem KerI.trigger {k:Ker} (h:KerI k) {d:Dev} (hd:d ∈ k.tree):KerI (k.trigger d).1:=h.emit _ (by decide) (by decide) ⟨d,hd,rfl⟩
theorem KerI.set {k:Ker} (h:KerI k) (d:Dev) (n:ByteArray) (na:List Atr) (same:Bool):KerI (k.set d n na same).1:=by
 unfold Ker.set
 split
 ·exact h
 ·by_cases he:chgErr k.tree (attD d na)=0
  ·rw [if_neg (fun h=>h he)]
   simp only
   split
   ·exact h.chg he
   ·exact (h.chg he).emit _ (by decide) (by decide) (chg_has h.tree.okt.nodup he)
  ·rw [if_pos he];exact h
theorem KerI.rename {k:Ker} (h:KerI k) (d:Dev) (u:ByteArray):KerI (k.rename d u).1:=by
 unfold Ker.rename
 split
 ·exact h
 ·by_cases he:chgErr k.tree (nmeD d u)=0
  ·rw [if_neg (fun h=>h he)]
   simp only
   split
   ·exact h.chg he
   ·exact (h.chg he).emit _ (by decide) (by decide) (chg_has h.tree.okt.nodup he)
  ·rw [if_pos he];exact h
theorem KerI.bind {k:Ker} (h:KerI k) (d:Dev) (v:ByteArray):KerI (k.bind d v).1:=by
 unfold Ker.bind
 split
 ·exact h
 ·split
  ·exact h
  ·exact h.drive d v
theorem KerI.unbind {k:Ker} (h:KerI k) (d:Dev):KerI (k.unbind d).1:=by
 unfold Ker.unbind
 split
 ·exact h
 ·exact h.drive d _
theorem KerI.each {k:Ker} (h:KerI k) (q:Dev → Bool) (v:ByteArray):∀ l:List Dev,KerI (k.each q v l):=fun l=>by
 unfold Ker.each
 induction l generalizing k with
 | nil=>exact h
 | cons d l ih =>
  rw [List.foldl_cons]
  split
  ·exact ih (h.drive d v)
  ·exact ih h
theorem drive_load (k:Ker) (d:Dev) (v:ByteArray):(k.drive d v).1.loaded=k.loaded∧(k.drive d v).1.mods=k.mods∧(k.drive d v).1.top=k.top:=by
 unfold Ker.drive
 split<;>exact ⟨rfl,rfl,rfl⟩
theorem each_load (q:Dev → Bool) (v:ByteArray):∀ (l:List Dev) (k:Ker),(k.each q v l).loaded=k.loaded∧(k.each q v l).mods=k.mods∧(k.each q v l).top=k.top
 | [],k=>⟨rfl,rfl,rfl⟩
 | d :: l,k=>by
  have h:k.each q v (d :: l)=(if q d=true then (k.drive d v).1 else k).each q v l:=rfl
  rw [h]
  obtain ⟨h1,h2,h3⟩:=each_load q v l (if q d=true then (k.drive d v).1 else k)
  obtain ⟨g1,g2,g3⟩:=drive_load k d v
  rw [h1,h2,h3]
  split
  ·exact ⟨g1,g2,g3⟩
  ·exact ⟨rfl,rfl,rfl⟩
theorem KerI.load_ {k:Ker} (h:KerI k) (n:ByteArray):KerI (k.load n).1:=by
 unfold Ker.load
 cases hm:modOf k.mods n with
 | none=>exact h
 | some m =>
  simp only
  split
  ·exact h
  ·rename_i hc
   rw [not_or,not_or] at hc
   obtain ⟨c1,c2,c3⟩:=hc
   have c1:inM n k.loaded=false:=by simpa using c1
   refine KerI.each (k:=k.withL (k.loaded++[n])) ⟨h.tree,h.top0,h.top,h.evn,h.tell,h.mods,fun s hs=>?_,?_,fun s hs m2 hm2=>?_⟩ _ n k.tree
   ·have hs:s ∈ k.loaded++[n]:=hs
    show ∃ m,modOf k.mods s=some m∧m.fails=false∧∀ x ∈ m.needs,x ∈ k.loaded++[n]
    rcases List.mem_append.1 hs with hs|hs
    ·obtain ⟨m2,g1,g2,g3⟩:=h.load s hs
     exact ⟨m2,g1,g2,fun x hx=>List.mem_append_left _ (g3 x hx)⟩
    ·rw [List.mem_singleton] at hs
     subst hs
     refine ⟨m,hm,by simpa using c2,fun x hx=>List.mem_append_left _ ?_⟩
     rw [← inM_iff]
     cases hi:inM x k.loaded with
     | true=>rfl
     | false =>
      exfalso
      apply c3
      rw [List.any_eq_true]
      exact ⟨x,hx,by rw [hi];rfl⟩
   ·show (k.loaded++[n]).Nodup
    rw [List.nodup_append]
    exact ⟨h.lnd,by simp,fun a ha b hb=>by rw [List.mem_singleton] at hb;rw [hb];exact fun e=>inM_false.1 c1 (e ▸ ha)⟩
   ·have hs:s ∈ k.loaded++[n]:=hs
    have hm3:modOf k.mods s=some m2:=hm2
    rcases List.mem_append.1 hs with hs|hs
    ·exact h.slf s hs m2 hm3
    ·rw [List.mem_singleton] at hs
     subst hs
     rw [hm] at hm3
     injection hm3 with hm3
     subst hm3
     intro hx
     apply c3
     rw [List.any_eq_true]
     exact ⟨s,hx,by rw [c1];rfl⟩
theorem KerI.unload {k:Ker} (h:KerI k) (n:ByteArray):KerI (k.unload n).1:=by
 unfold Ker.unload
 cases hm:modOf k.mods n with
 | none=>exact h
 | some m =>
  simp only
  split
  ·exact h
  ·rename_i hc
   rw [not_or] at hc
   obtain ⟨c1,c2⟩:=hc
   refine KerI.each (k:=k.withL (k.loaded.filter fun s=>!decide (s=n))) ⟨h.tree,h.top0,h.top,h.evn,h.tell,h.mods,fun s hs=>?_,?_,fun s hs m2 hm2=>h.slf s (List.mem_filter.1 hs).1 m2 hm2⟩ _ _ k.tree
   ·have hs:s ∈ k.loaded.filter fun s=>!decide (s=n):=hs
    show ∃ m,modOf k.mods s=some m∧m.fails=false∧∀ x ∈ m.needs,x ∈ k.loaded.filter fun s=>!decide (s=n)
    have hs2:=(List.mem_filter.1 hs).1
    obtain ⟨m2,g1,g2,g3⟩:=h.load s hs2
    refine ⟨m2,g1,g2,fun x hx=>?_⟩
    refine List.mem_filter.2 ⟨g3 x hx,?_⟩
    rw [Bool.not_eq_true',decide_eq_false_iff_not]
    intro e
    apply c2
    unfold Ker.needed
    rw [List.any_eq_true]
    refine ⟨s,hs2,?_⟩
    rw [g1,inM_iff,← e]
    exact hx
   ·exact h.lnd.filter _
theorem KerI.add {k:Ker} (h:KerI k) (p:ByteArray) (x:Dev):KerI (k.add p x).1:=by
 unfold Ker.add
 split
 ·exact h
 ·by_cases he:insErr k.tree (newD k (parI k.tree p) x)=0
  ·rw [if_neg (fun h=>h he)]
   have hp:=h.put he rfl
   cases firstM k (newD k (parI k.tree p) x) with
   | none=>exact hp
   | some s=>exact hp.drive _ _
  ·rw [if_pos he];exact h
theorem KerI.name {k:Ker} (h:KerI k) {s:ByteArray} (hs:s ∈ k.loaded):validS s=true:=by
 obtain ⟨m,h1,_⟩:=h.load s hs
 obtain ⟨h2,h3⟩:=modOf_name h1
 rw [← h3]
 exact h.mods m h2
structure Opr where
 kind:Int
 path:ByteArray
 dev:Dev
 name:ByteArray
 value:ByteArray
def Ker.one (sa:List Atr → ByteArray → ByteArray → List Atr) (k:Ker) (op:Opr) (d:Dev):Ker × Int :=
 if op.kind=2 then k.remove d else
 if op.kind=3 then k.set d op.name (sa d.attrs op.name op.value) (decide (((d.attrs.find? fun a=>decide (a.name=op.name)).map Atr.value).getD ⟨#[]⟩=op.value)) else
 if op.kind=4 then k.trigger d else
 if op.kind=5 then k.rename d op.name else
 if op.kind=6 then k.bind d op.value else k.unbind d
def Ker.doM (sa:List Atr → ByteArray → ByteArray → List Atr) (k:Ker) (op:Opr):Ker × Int × Int :=
 if op.kind=1 then k.add op.path op.dev else
 if op.kind=8 then ((k.load op.value).1,0,(k.load op.value).2) else
 if op.kind=9 then ((k.unload op.value).1,0,(k.unload op.value).2) else
 if op.kind < 2∨7 < op.kind then (k,0,50) else
 match atD k.tree op.path with
 | none=>(k,0,51)
 | some d=>((k.one sa op d).1,0,(k.one sa op d).2)
theorem KerI.one {sa:List Atr → ByteArray → ByteArray → List Atr} {k:Ker} (h:KerI k) (op:Opr) {d:Dev} (hd:d ∈ k.tree):KerI (k.one sa op d).1:=by
 unfold Ker.one
 split
 ·exact h.remove d
 ·split
  ·exact h.set d _ _ _
  ·split
   ·exact h.trigger hd
   ·split
    ·exact h.rename d _
    ·split
     ·exact h.bind d _
     ·exact h.unbind d
theorem KerI.doM {sa:List Atr → ByteArray → ByteArray → List Atr} {k:Ker} (h:KerI k) (op:Opr):KerI (k.doM sa op).1:=by
 unfold Ker.doM
 split
 ·exact h.add _ _
 ·split
  ·exact h.load_ _
  ·split
   ·exact h.unload _
   ·split
    ·exact h
    ·cases ha:atD k.tree op.path with
     | none=>exact h
     | some d=>exact h.one op (at_in ha)
structure NewE (k k':Ker) (new:List Evt):Prop where
 eq:k'.evs=k.evs++new
 no:∀ e ∈ new,e.act≠2
theorem NewE.trans {k k' k'':Ker} {a b:List Evt} (h1:NewE k k' a) (h2:NewE k' k'' b):NewE k k'' (a++b) :=
 ⟨by rw [h2.eq,h1.eq,List.append_assoc],fun e he=>(List.mem_append.1 he).elim (h1.no e) (h2.no e)⟩
theorem NewE.nil {k k':Ker} (h:k'.evs=k.evs):NewE k k' []:=⟨by rw [h,List.append_nil],fun e he=>by cases he⟩
structure OrdE (k:Ker) (new:List Evt):Prop where
 ord:∀ (a b:Nat),b < a → a < new.length → (new.getD a default).act=2 → (new.getD b default).act=2 → ∀ x ∈ chainM k.tree (new.getD a default).idx,x.index≠(new.getD a default).idx → x.index≠(new.getD b default).idx
theorem NewE.ord {k k':Ker} {new:List Evt} (h:NewE k k' new):OrdE k new:=⟨fun a b hb ha h2=>absurd h2 (h.no _ (by rw [getD_lt new ha];exact List.getElem_mem _))⟩
theorem remEvs_len (l:List Dev):∀ (ds:List Dev) (n:Nat),(remEvs l n ds).length=ds.length
 | [],n=>rfl
 | d :: ds,n=>by rw [remEvs,List.length_cons,List.length_cons,remEvs_len l ds (n+1)]
theorem KerI.loaded {k:Ker} (h:KerI k) {s:ByteArray} (hs:s ∈ k.loaded):∃ m,modOf k.mods s=some m∧m.fails=false∧∀ n ∈ m.needs,inM n k.loaded=true:=by
 obtain ⟨m,h1,h2,h3⟩:=h.load s hs
 exact ⟨m,h1,h2,fun n hn=>inM_iff.2 (h3 n hn)⟩
theorem emit_len (k:Ker) (a ix:Int) (o:ByteArray):(k.emit a ix o).evs.length=k.evs.length+1:=by simp [Ker.emit,Ker.tell]
theorem drive_len (k:Ker) (d:Dev) (v:ByteArray):(k.drive d v).1.evs.length≤k.evs.length+1:=by
 unfold Ker.drive
 split
 ·rw [emit_len];exact Nat.le_refl _
 ·exact Nat.le_succ _
theorem each_len (q:Dev → Bool) (v:ByteArray):∀ (l:List Dev) (k:Ker),(k.each q v l).evs.length≤k.evs.length+l.length
 | [],k=>Nat.le_refl _
 | d :: l,k=>by
  have h:=each_len q v l (if q d=true then (k.drive d v).1 else k)
  have h2:(if q d=true then (k.drive d v).1 else k).evs.length≤k.evs.length+1:=by
   split
   ·exact drive_len k d v
   ·exact Nat.le_succ _
  have h3:(k.each q v (d :: l))=((if q d=true then (k.drive d v).1 else k).each q v l):=rfl
  rw [h3,List.length_cons]
  omega
theorem put_len (k:Ker) (d:Dev):(k.put d).evs.length=k.evs.length+1:=emit_len _ _ _ _
theorem do_len (sa:List Atr → ByteArray → ByteArray → List Atr) {k:Ker} (h:KerI k) (op:Opr):(k.doM sa op).1.evs.length≤k.evs.length+256:=by
 have ht:=h.tree.len
 unfold Ker.doM
 split
 ·unfold Ker.add
  split
  ·simp only;omega
  ·split
   ·simp only;omega
   ·split
    ·simp only [put_len];omega
    ·have:=drive_len (k.put (newD k (parI k.tree op.path) op.dev)) (newD k (parI k.tree op.path) op.dev)
     have h2:=put_len k (newD k (parI k.tree op.path) op.dev)
     rename_i s _
     have:=this s
     simp only
     omega
 ·split
  ·simp only
   unfold Ker.load
   split
   ·simp only;omega
   ·split
    ·simp only;omega
    ·rename_i m _ _
     have:=each_len (fun d=>decide (d.driver=⟨#[]⟩) && matB m d) op.value k.tree (k.withL (k.loaded++[op.value]))
     simp only [Ker.withL] at this ⊢
     omega
  ·split
   ·simp only
    unfold Ker.unload
    split
    ·simp only;omega
    ·split
     ·simp only;omega
     ·have:=each_len (fun d=>decide (d.driver=op.value)) ⟨#[]⟩ k.tree (k.withL (k.loaded.filter fun s=>!decide (s=op.value)))
      simp only [Ker.withL] at this ⊢
      omega
   ·split
    ·simp only;omega
    ·split
     ·simp only;omega
     ·rename_i d _
      simp only
      have hre:∀ (ds:List Dev) (n:Nat),(remEvs k.tree n ds).length=ds.length:=fun ds n=>remEvs_len k.tree ds n
      have hd:=drive_len k d
      unfold Ker.one
      split
      ·unfold Ker.remove
       have h1:(subtM k.tree d.index).length≤k.tree.length:=List.length_filter_le _ _
       simp only [List.length_append,hre,List.length_reverse]
       omega
      ·split
       ·unfold Ker.set
        split
        ·simp only;omega
        ·split
         ·simp only;omega
         ·split
          ·simp only [Ker.withT];omega
          ·simp only [emit_len,Ker.withT];omega
       ·split
        ·unfold Ker.trigger;simp only [emit_len];omega
        ·split
         ·unfold Ker.rename
          split
          ·simp only;omega
          ·split
           ·simp only;omega
           ·split
            ·simp only [Ker.withT];omega
            ·simp only [emit_len,Ker.withT];omega
         ·split
          ·unfold Ker.bind
           split
           ·simp only;omega
           ·split
            ·simp only;omega
            ·have:=hd op.value;omega
          ·unfold Ker.unbind
           split
           ·simp only;omega
           ·have:=hd ⟨#[]⟩;omega
theorem each_next (k:Ker) (q:Dev → Bool) (v:ByteArray) {i:Nat} (l:List Dev) (hi:i < l.length):k.each q v (l.take (i+1))=if q (l.getD i default)=true then ((k.each q v (l.take i)).drive (l.getD i default) v).1 else k.each q v (l.take i):=by
 unfold Ker.each
 rw [List.take_succ_eq_append_getElem hi,List.foldl_append,getD_lt l hi]
 rfl
structure Small (d:Dev):Prop where
 name:d.name.size≤32
 orig:d.original.size≤32
 sub:d.subsystem.size≤32
 drv:d.driver.size≤32
 als:d.alias_.size≤256
 att:d.attrs.length≤24
 atz:∀ a ∈ d.attrs,a.name.size≤32∧a.value.size≤256
 ix:1≤d.index∧d.index≤1073741824
theorem check_small {d:Dev} (h:checkM d=0):Small d:=by
 unfold checkM at h
 have h1:numsM d=true:=by cases e:numsM d with|true=>rfl|false=>rw [e] at h;simp at h
 rw [h1] at h
 have h2:namedM d=true:=by cases e:namedM d with|true=>rfl|false=>rw [e] at h;simp at h
 rw [h2] at h
 have h3:kindM d=true:=by cases e:kindM d with|true=>rfl|false=>rw [e] at h;simp at h
 rw [h3] at h
 have h4:numberM d=true:=by cases e:numberM d with|true=>rfl|false=>rw [e] at h;simp at h
 rw [h4] at h
 simp only [Bool.not_true,Bool.false_eq_true,if_false] at h
 have h5:¬ 24 < d.attrs.length:=fun e=>by rw [if_pos e] at h;cases h
 rw [if_neg h5] at h
 have h6:attrsB d.attrs=true:=by cases e:attrsB d.attrs with|true=>rfl|false=>rw [e] at h;simp at h
 simp only [namedM,Bool.and_eq_true,Bool.or_eq_true,decide_eq_true_eq] at h2
 obtain ⟨⟨⟨⟨a1,a2⟩,a3⟩,a4⟩,a5⟩:=h2
 simp only [textS,Bool.and_eq_true,decide_eq_true_eq] at a5
 simp only [numsM,Bool.and_eq_true,decide_eq_true_eq] at h1
 refine ⟨valid_size a1,valid_size a2,valid_size a3,?_,a5.2,by omega,fun a ha=>?_,h1.1.1⟩
 ·rcases a4 with e|e
  ·rw [e];exact Nat.zero_le _
  ·exact valid_size e
 ·simp only [attrsB,Bool.and_eq_true,List.all_eq_true] at h6
  have h7:=h6.2 a ha
  simp only [attrB,textS,Bool.and_eq_true,decide_eq_true_eq] at h7
  exact ⟨valid_size h7.1.1,h7.2.2⟩
theorem Small.ok {d:Dev} (h:Small d):d.ok :=
 ⟨fit_of h.name (by decide),fit_of h.orig (by decide),fit_of h.sub (by decide),fit_of h.drv (by decide),fit_of h.als (by decide),fun a ha=>⟨fit_of (h.atz a ha).1 (by decide),fit_of (h.atz a ha).2 (by decide)⟩,by have:=h.att;omega,by have:=h.orig;omega⟩
structure KerB (k:Ker):Prop where
 inv:KerI k
 evl:k.evs.length≤1000000
 modl:k.mods.length≤1000
 als:∀ m ∈ k.mods,m.aliases.length≤1000000∧m.needs.length≤1000000
 alz:∀ m ∈ k.mods,∀ p ∈ m.aliases,p.size≤1000000000
 top:k.top≤1000000
theorem KerB.small {k:Ker} (h:KerB k) {d:Dev} (hd:d ∈ k.tree):Small d:=check_small (h.inv.tree.chk d hd)
theorem KerB.ok {k:Ker} (h:KerB k) {d:Dev} (hd:d ∈ k.tree):d.ok:=(h.small hd).ok
theorem KerB.orig {k:Ker} (h:KerB k):∀ d ∈ k.tree,d.original.size≤1000:=fun d hd=>by have:=(h.small hd).orig;omega
theorem KerB.att {k:Ker} (h:KerB k):∀ d ∈ k.tree,d.attrs.length≤1000000000:=fun d hd=>by have:=(h.small hd).att;omega
theorem KerB.len {k:Ker} (h:KerB k):k.tree.length≤256:=h.inv.tree.len
theorem KerB.okp {k:Ker} (h:KerB k):Okp k.tree:=h.inv.tree.okt.p
theorem nodup_le2 {α:Type} [DecidableEq α]:∀ (l m:List α),l.Nodup → (∀ x ∈ l,x ∈ m) → l.length≤m.length
 | [],m,_,_=>by simp
 | a :: l,m,h,hs=>by
  obtain ⟨h1,h2⟩:=List.nodup_cons.1 h
  have ih:=nodup_le2 l (m.filter fun x=>decide (x≠a)) h2 (fun x hx=>by
   rw [List.mem_filter]
   refine ⟨hs x (by simp [hx]),?_⟩
   simp only [ne_eq,decide_eq_true_eq]
   rintro rfl
   exact h1 hx)
  have h3:(m.filter fun x=>decide (x≠a)).length < m.length:=by
   have hle:=List.length_filter_le (fun x=>decide (x≠a)) m
   rcases Nat.lt_or_ge (m.filter fun x=>decide (x≠a)).length m.length with h|h
   ·exact h
   ·have:=(List.length_filter_eq_length_iff (p:=fun x=>decide (x≠a)) (l:=m)).1 (by omega) a (hs a (by simp))
    simp at this
  simp only [List.length_cons]
  omega
theorem load_le {l:List ByteArray} {ms:List Mod} (hn:l.Nodup) (h:∀ s ∈ l,∃ m,modOf ms s=some m):l.length≤ms.length:=by
 have h1:l ⊆ ms.map Mod.name:=fun s hs=>by
  obtain ⟨m,hm⟩:=h s hs
  obtain ⟨a,b⟩:=modOf_name hm
  exact List.mem_map.2 ⟨m,a,b⟩
 have:=nodup_le2 l (ms.map Mod.name) hn fun x hx=>h1 hx
 rwa [List.length_map] at this
theorem KerB.lod {k:Ker} (h:KerB k):k.loaded.length≤1000:=Nat.le_trans (load_le h.inv.lnd fun s hs=>by obtain ⟨m,hm,_⟩:=h.inv.load s hs;exact ⟨m,hm⟩) h.modl
theorem do_keep (sa:List Atr → ByteArray → ByteArray → List Atr) (k:Ker) (op:Opr):(k.doM sa op).1.mods=k.mods∧(k.doM sa op).1.top≤k.top+1:=by
 have hd:=fun d v=>drive_load k d v
 unfold Ker.doM
 split
 ·unfold Ker.add
  split
  ·exact ⟨rfl,by simp only;omega⟩
  ·split
   ·exact ⟨rfl,by simp only;omega⟩
   ·split
    ·exact ⟨rfl,Int.le_refl _⟩
    ·rename_i s _
     have h:=drive_load (k.put (newD k (parI k.tree op.path) op.dev)) (newD k (parI k.tree op.path) op.dev) s
     exact ⟨h.2.1,by simp only;rw [h.2.2];exact Int.le_refl _⟩
 ·split
  ·unfold Ker.load
   split
   ·exact ⟨rfl,by simp only;omega⟩
   ·split
    ·exact ⟨rfl,by simp only;omega⟩
    ·have h:=each_load (fun d=>decide (d.driver=⟨#[]⟩) && matB ‹Mod› d) op.value k.tree (k.withL (k.loaded++[op.value]))
     exact ⟨h.2.1,by simp only;rw [h.2.2];simp only [Ker.withL];omega⟩
  ·split
   ·unfold Ker.unload
    split
    ·exact ⟨rfl,by simp only;omega⟩
    ·split
     ·exact ⟨rfl,by simp only;omega⟩
     ·have h:=each_load (fun d=>decide (d.driver=op.value)) ⟨#[]⟩ k.tree (k.withL (k.loaded.filter fun s=>!decide (s=op.value)))
      exact ⟨h.2.1,by simp only;rw [h.2.2];simp only [Ker.withL];omega⟩
   ·split
    ·exact ⟨rfl,by simp only;omega⟩
    ·split
     ·exact ⟨rfl,by simp only;omega⟩
     ·unfold Ker.one
      split
      ·exact ⟨rfl,by simp only [Ker.remove];omega⟩
      ·split
       ·unfold Ker.set
        split
        ·exact ⟨rfl,by simp only;omega⟩
        ·split
         ·exact ⟨rfl,by simp only;omega⟩
         ·split
          ·exact ⟨rfl,by simp only [Ker.withT];omega⟩
          ·exact ⟨rfl,by simp only [Ker.emit,Ker.tell,Ker.withT];omega⟩
       ·split
        ·exact ⟨rfl,by simp only [Ker.trigger,Ker.emit,Ker.tell];omega⟩
        ·split
         ·unfold Ker.rename
          split
          ·exact ⟨rfl,by simp only;omega⟩
          ·split
           ·exact ⟨rfl,by simp only;omega⟩
           ·split
            ·exact ⟨rfl,by simp only [Ker.withT];omega⟩
            ·exact ⟨rfl,by simp only [Ker.emit,Ker.tell,Ker.withT];omega⟩
         ·split
          ·unfold Ker.bind
           split
           ·exact ⟨rfl,by simp only;omega⟩
           ·split
            ·exact ⟨rfl,by simp only;omega⟩
            ·exact ⟨(hd _ op.value).2.1,by simp only;rw [(hd _ op.value).2.2];omega⟩
          ·unfold Ker.unbind
           split
           ·exact ⟨rfl,by simp only;omega⟩
           ·exact ⟨(hd _ ⟨#[]⟩).2.1,by simp only;rw [(hd _ ⟨#[]⟩).2.2];omega⟩
theorem KerB.do {k:Ker} (h:KerB k) (sa:List Atr → ByteArray → ByteArray → List Atr) (op:Opr) (he:k.evs.length+256≤1000000) (ht:k.top+1≤1000000):KerB (k.doM sa op).1:=by
 obtain ⟨h1,h2⟩:=do_keep sa k op
 have h3:=do_len sa h.inv op
 exact ⟨h.inv.doM op,by omega,by rw [h1];exact h.modl,by rw [h1];exact h.als,by rw [h1];exact h.alz,by omega⟩
def Ker.re (k:Ker):List E:=[.sl 6 (k.mods.map Mod.d),.sl 10 (k.tree.map Dev.d),.sl 1 (k.loaded.map strD),.sl 5 (k.evs.map Evt.d),.v (.int .i64 k.top)]
attribute [push_cast] Ker.re
def Opr.e (o:Opr):List E:=[.v (.int .i64 o.kind),.v (.string o.path),.v (.int .i64 o.dev.index),.v (.int .i64 o.dev.parent),.v (.string o.dev.name),.v (.string o.dev.original),.v (.string o.dev.subsystem),.v (.string o.dev.driver),.v (.string o.dev.alias_),.v (.int .i64 o.dev.kind),.v (.int .i64 o.dev.number),.sl 2 (o.dev.attrs.map Atr.d),.v (.string o.name),.v (.string o.value)]
attribute [push_cast] Opr.e
def Ker.tells (k:Ker) (xs:List Evt):Ker:=xs.foldl (fun k x=>k.tell x.act x.idx x.path x.old) k
theorem tells_snoc (k:Ker) (xs:List Evt) (x:Evt):k.tells (xs++[x])=(k.tells xs).tell x.act x.idx x.path x.old:=by unfold Ker.tells;rw [List.foldl_append];rfl
theorem tells_keep (xs:List Evt):∀ k:Ker,(k.tells xs).tree=k.tree∧(k.tells xs).mods=k.mods∧(k.tells xs).loaded=k.loaded∧(k.tells xs).top=k.top∧(k.tells xs).evs.length=k.evs.length+xs.length:=by
 induction xs with
 | nil=>intro k;exact ⟨rfl,rfl,rfl,rfl,rfl⟩
 | cons x xs ih =>
  intro k
  obtain ⟨h1,h2,h3,h4,h5⟩:=ih (k.tell x.act x.idx x.path x.old)
  refine ⟨h1,h2,h3,h4,?_⟩
  show ((k.tell x.act x.idx x.path x.old).tells xs).evs.length=_
  rw [h5]
  show (k.evs++[_]).length+xs.length=_
  rw [List.length_append,List.length_singleton,List.length_cons]
  omega
def remE (l ds:List Dev):List Evt:=ds.map fun d=>⟨0,2,d.index,pathM l d.index,⟨#[]⟩⟩
theorem tells_rem (l:List Dev):∀ (ds:List Dev) (k:Ker),k.tells (remE l ds)=⟨k.tree,k.mods,k.loaded,k.evs++remEvs l k.evs.length ds,k.top⟩
 | [],k=>by rw [remEvs,List.append_nil];rfl
 | d :: ds,k=>by
  have ih:=tells_rem l ds (k.tell 2 d.index (pathM l d.index) ⟨#[]⟩)
  show (k.tell 2 d.index (pathM l d.index) ⟨#[]⟩).tells (remE l ds)=_
  rw [ih,remEvs]
  show (⟨k.tree,k.mods,k.loaded,(k.evs++[_])++remEvs l (k.evs++[_]).length ds,k.top⟩:Ker)=_
  rw [List.append_assoc,List.length_append,List.length_singleton]
  rfl
theorem remove_tells (k:Ker) (d:Dev):(k.remove d).1=(k.withT (remT k.tree d.index)).tells (remE k.tree (subtM k.tree d.index).reverse):=by rw [tells_rem];rfl
end Go.Proofs.YtmbbkfffcflfcaaGreatDoor
namespace Go.Proofs.YtmbbkfffcflfcaaGreatDoor
attribute [local irreducible] PL QL PWPr PCalls Weak RetK Kontr PA
open Go.RowKit
open IntWalk renaming iteOmega → O, toNatUp → U
set_option linter.unusedVariables false
set_option linter.unusedSimpArgs false
set_option maxRecDepth 20000
def kerB (a b:Nat) (k:Ker):Ob:=.box 87 [.sl 10 (k.tree.map Dev.d),.sl 6 (k.mods.map Mod.d),.own a k.loaded.length,.own b k.evs.length,.v (.int .i64 k.top)]
def kerL (k:Ker):Ob:=.arr 9 1 (k.loaded.map strD)
def kerV (k:Ker):Ob:=.arr 69 5 (k.evs.map Evt.d)
def kerO (k:Ker):List Ob:=[kerB 1 2 k,kerL k,kerV k]
attribute [push_cast] kerB kerL kerV kerO
theorem kmod1_pure (m:Mod) (n:ByteArray):PCalls Tryz.prog 72 [.agg m.e,.c (.ptr 0 0)] [.box 9 [.v (.string n)]] fun r os=>r = .c (.v (.bool (decide (m.name=n))))∧os=[.box 9 [.v (.string n)]]:=by
 refine pcalls_of Tryz.func72 rfl (by simp [Tryz.ntmps72]) ?_
 rw [Tryz.ntmps72,Tryz.results72]
 push_cast [O,U]
 repeat' ((first|refine pG ?_|refine pQ ?_|refine pU ?_|refine pif ?_ ?_<;>intro h<;>try exact pN h)<;>push_cast [O,U])
 (refine retK_of [0] ?_;push_cast [O,U])
theorem mod_no {l:List Mod} {n:ByteArray} (h:∀ x ∈ l,decide (x.name=n)=false):modOf l n=none:=by
 unfold modOf
 rw [List.find?_eq_none]
 intro x hx
 simpa using h x hx
theorem mod_at {l:List Mod} {n:ByteArray} {i:Nat} (hi:i < l.length) (hq:decide ((l.getD i default).name=n)=true) (hpre:∀ x ∈ l.take i,decide (x.name=n)=false):modOf l n=some (l.getD i default):=by
 unfold modOf
 rw [List.find?_eq_some_iff_append]
 refine ⟨hq,l.take i,l.drop (i+1),?_,fun a ha=>by simpa using hpre a ha⟩
 rw [getD_lt l hi]
 conv=>lhs;rw [← List.take_append_drop i l,List.drop_eq_getElem_cons hi]
theorem kmod_pure (k:Ker) (n:ByteArray) (hl:k.mods.length≤1000000):PCalls Tryz.prog 44 [.c (.ptr 0 0),.c (.v (.string n))] (kerO k) fun r os=>r = .two (.agg ((modOf k.mods n).getD noMod).e) (.c (.v (.bool ((modOf k.mods n).isSome))))∧os=kerO k:=by
 have hi:=indexFuncM_pure k.mods (by omega) 72 [0] [.box 9 [.v (.string n)]] (fun m=>decide (m.name=n)) ⟨by kernel_rfl,fun x _=>kmod1_pure x n⟩
 refine pcalls_of Tryz.func44 rfl (by simp [Tryz.ntmps44]) ?_
 rw [Tryz.ntmps44,Tryz.results44]
 push_cast [O,U]
 repeat' ((first|refine pG ?_|refine pQ ?_|refine pU ?_|refine pif ?_ ?_<;>intro h<;>try exact pN h)<;>push_cast [O,U])
 (refine plc [3] (hi) ?_ ?_;push_cast [O,U];rintro r os ⟨j,hk,rfl,rfl⟩;push_cast [O,U])
 rcases hk with ⟨rfl,hn⟩|⟨i,rfl,hi2,hq,hpre⟩
 ·have hR:=mod_no hn
  repeat' ((first|refine pG ?_|refine pQ ?_|refine pU ?_|refine pif ?_ ?_<;>intro h<;>try exact pN h)<;>push_cast [O,U])
  (refine retK_of [0,1,2] ?_;push_cast [O,U,hR,Option.getD_none,Option.isSome_none,noMod])
  repeat' (first|exact rfl|exact leOs_refl _|exact trivial|refine ⟨?_,?_⟩)
 ·have hR:=mod_at hi2 hq hpre
  repeat' ((first|refine pG ?_|refine pQ ?_|refine pU ?_|refine pif ?_ ?_<;>intro h<;>try exact pN h)<;>push_cast [O,U])
  (refine retK_of [0,1,2] ?_;push_cast [O,U,hR,Option.getD_some,Option.isSome_some])
  repeat' (first|exact rfl|exact leOs_refl _|exact trivial|refine ⟨?_,?_⟩)
theorem kmat1_pure (d:Dev) (p:ByteArray) (hp:p.size≤1000000000) (hd:d.alias_.size≤1000000000):PCalls Tryz.prog 138 [.c (.v (.string p)),.c (.ptr 0 0)] [.box 53 d.e] fun r os=>r = .c (.v (.bool (matchM p d.alias_)))∧os=[.box 53 d.e]:=by
 have hm:=match_pure p d.alias_ (by omega) (by omega)
 refine pcalls_of Tryz.func138 rfl (by simp [Tryz.ntmps138]) ?_
 rw [Tryz.ntmps138,Tryz.results138]
 push_cast [O,U]
 repeat' ((first|refine plE [] hm ?_ ?_|refine pG ?_|refine pQ ?_|refine pU ?_|refine pif ?_ ?_<;>intro h<;>try exact pN h)<;>push_cast [O,U])
 (refine retK_of [0] ?_;push_cast [O,U])
theorem kmat_pure (m:Mod) (d:Dev) (hl:m.aliases.length≤1000000) (hz:∀ p ∈ m.aliases,p.size≤1000000000) (hd:d.alias_.size≤1000000000) :
  PCalls Tryz.prog 89 [.agg m.e,.agg d.e] [] fun r os=>r = .c (.v (.bool (matB m d)))∧os=[]:=by
 have hc:=containsFuncS_pure m.aliases (by omega) 138 [0] [.box 53 d.e] (fun p=>matchM p d.alias_) ⟨by kernel_rfl,fun x hx=>kmat1_pure d x (hz x hx) hd⟩
 refine pcalls_of Tryz.func89 rfl (by simp [Tryz.ntmps89]) ?_
 rw [Tryz.ntmps89,Tryz.results89]
 unfold matB
 push_cast [O,U]
 by_cases h:d.alias_=⟨#[]⟩
 ·repeat' ((first|refine plE [1] hc ?_ ?_|refine pG ?_|refine pQ ?_|refine pU ?_|refine pif ?_ ?_<;>intro h<;>try exact pN h)<;>push_cast [O,U,h,ne_eq,not_true_eq_false])
  (refine retK_of [] ?_;push_cast [O,U,h])
 ·repeat' ((first|refine plE [1] hc ?_ ?_|refine pG ?_|refine pQ ?_|refine pU ?_|refine pif ?_ ?_<;>intro h<;>try exact pN h)<;>push_cast [O,U,h,ne_eq,not_false_eq_true])
  (refine retK_of [] ?_;push_cast [O,U,h])
end Go.Proofs.YtmbbkfffcflfcaaGreatDoor
