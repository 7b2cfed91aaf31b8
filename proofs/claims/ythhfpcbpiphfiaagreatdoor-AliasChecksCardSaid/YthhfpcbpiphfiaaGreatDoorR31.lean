/- What the program computes, and the plain laws of it, part 31. -/
import Derived.Test.YthhfpcbpiphfiaaGreatDoorR30
namespace Go.Proofs.YthhfpcbpiphfiaaGreatDoor
open Go.RowKit
open IntWalk renaming iteOmega → iO, toNatUp → tN
set_option linter.unusedVariables false
set_option linter.unusedSimpArgs false
theorem hfind {kk:Option KI} {key:MK} (hw:notW kk=true) (hk:key.kind=kk):∀ (hs:List HE) (ms:List MapEntry) (i:Nat),
  All2 (fun h m=>m.key=h.key.v∧m.val=h.val) hs ms → (∀ h ∈ hs,h.key.kind=kk) →
  (key ∉ hs.map HE.key∧Instr.findNow (descOf kk) key.v ms i=some none) ∨
  ∃ j h m,hs[j]? = some h∧ms[j]? = some m∧h.key=key∧m.key=key.v∧Instr.findNow (descOf kk) key.v ms i=some (some (i+j,h.val))
 | [],ms,i,h,_=>by
  rw [All2.nil_l] at h
  subst h
  exact .inl ⟨by simp,rfl⟩
 | x :: es,ms,i,h,hkk=>by
  obtain ⟨m,ms',rfl,⟨h1,h2⟩,h3⟩:=All2.cons_l.1 h
  have hs:=mk_same hw hk (hkk x (by simp))
  rw [← h1] at hs
  by_cases e:key=x.key
  ·refine .inr ⟨0,x,m,rfl,rfl,e.symm,by rw [h1,e],?_⟩
   rw [decide_eq_true e] at hs
   simp [Instr.findNow,hs,h2]
  ·have hs':Instr.sameNow (descOf kk) key.v m.key=some false:=by rw [hs];simp [e]
   rcases hfind hw hk es ms' (i+1) h3 (fun e he=>hkk e (by simp [he])) with ⟨g1,g2⟩|⟨j,h0,m0,g1,g2,g3,g4,g5⟩
   ·refine .inl ⟨by simpa [e] using g1,?_⟩
    simp [Instr.findNow,hs',g2]
   ·refine .inr ⟨j+1,h0,m0,by simpa using g1,by simpa using g2,g3,g4,?_⟩
    simp [Instr.findNow,hs',g5]
    omega
theorem harr_of {w:World} {I:Nat → Prop} {el:TypeId} {sz n:Nat} {v:Value} {xs:List Value} (h:w.ownsRow 0 el sz v n xs) (hn:0 < n) (hsz:0 < sz) (key:MK) {rows:List (List D)} (hl:rows.length=n) (hw:∀ r ∈ rows,r.length=sz) (hd:All2 (RD w I) rows.flatten xs) :
  ∃ h':HE,v=h'.val∧h'.key=key∧h'.rows=rows∧HArr w I el sz h'∧v.ownBlock=some h'.blk:=by
 obtain ⟨hxl,h2⟩:=h
 rcases h2 with ⟨rfl,rfl⟩|⟨g,cap,cur,rfl,hb,hg,hnc,hc,hs,hx⟩
 ·omega
 ·subst hl
  refine ⟨⟨key,g,cap,rows⟩,rfl,rfl,rfl,⟨⟨cur,hg,hs,?_⟩,hnc,hc,hw⟩,rfl⟩
  show All2 (RD w I) rows.flatten (cur.toList.take (rows.length * sz))
  rw [hx]
  exact hd
theorem hid_append {P:Program} {w:World} {I:Nat → Prop} {t ty el:TypeId} {sz bytes:Nat} (hT:SlT P t el sz bytes) {h:HE} (hh:HArr w I el sz h) {R:Nat → Prop} {A:Option Addr} {c:Nat} {news:List Value} {r:List D} (hr:Rd w R sz A 1 news)
  (hd:All2 (RD w I) r news) (hrl:r.length=sz) (hI:¬ I h.blk) (hlt:∀ b,I b → b < w.heap.size) (hmax:h.rows.length+1≤maxLen) (hby:(h.rows.length+1) * bytes≤140737488355328) :
  ∃ (h':HE) (w':World),(Builtin.append_ #[t,t] ty #[h.val,.slice A 1 c]).run P w = .ok h'.val w'∧h'.key=h.key∧h'.rows=h.rows++[r]∧HArr w' I el sz h'∧Ext (fun k=>k=h.blk) w w'∧(h'.blk=h.blk∨h'.blk=w.heap.size):=by
 obtain ⟨cur,b1,b2,b3⟩:=hh.arr
 have ho:w.ownsRow 0 el sz h.val h.rows.length (cur.toList.take (h.rows.length * sz)):=own_blk b1 (Nat.zero_le _) b2 hh.le hh.max
 have h1:∀ u ∈ news,u.oneCell'=true:=fun u hu=>by
  obtain ⟨i,hi⟩:=List.mem_iff_getElem?.1 hu
  have hl:=hd.length
  obtain ⟨d,hd1,hd2⟩:∃ d,r[i]? = some d∧RD w I d u:=by
   have hil:i < r.length:=by rw [hl];exact (List.getElem?_eq_some_iff.1 hi).1
   obtain ⟨u',hu',hR⟩:=hd.get i r[i] (List.getElem?_eq_getElem hil)
   rw [hi] at hu'
   cases hu'
   exact ⟨r[i],List.getElem?_eq_getElem hil,hR⟩
  exact hd2.one
 obtain ⟨v',w',g1,g2,g3,g4⟩:=run_append_rd w 0 t ty el sz bytes hT h.val h.rows.length _ ho R A 1 c news hr h1 hmax hby (Nat.zero_le _)
 have hE:Ext (fun k=>k=h.blk) w w':=g3.mono fun k hk=>by simpa [HE.val,Value.ownBlock] using hk.symm
 have hst:Stay w I w' I:=⟨hE.size,fun b hb hl=>hE.block b hl fun e=>hI (e ▸ hb),fun _ h=>h⟩
 obtain ⟨h',e1,e2,e3,e4,e5⟩:=harr_of (I:=I) g2 (by omega) hT.pos h.key (rows:=h.rows++[r]) (by simp) (fun x hx=>by
  rcases List.mem_append.1 hx with hx|hx
  ·exact hh.wid x hx
  ·rw [List.mem_singleton.1 hx];exact hrl) (by
  rw [List.flatten_append]
  simp only [List.flatten_cons,List.flatten_nil,List.append_nil]
  exact (b3.append hd).mono fun _ _=>RD.stay hst _ _)
 subst e1
 refine ⟨h',w',g1,e2,e3,e4,hE,?_⟩
 rcases g4 with g4|g4
 ·rw [e5] at g4
  have:some h'.blk=some h.blk:=by rw [g4];rfl
  exact .inl (Option.some.inj this)
 ·rw [e5] at g4
  exact .inr (Option.some.inj g4)
theorem hid_append0 {P:Program} {w:World} {I:Nat → Prop} {t ty el:TypeId} {sz bytes:Nat} (hT:SlT P t el sz bytes) (key:MK) {R:Nat → Prop} {A:Option Addr} {c:Nat} {news:List Value} {r:List D} (hr:Rd w R sz A 1 news)
  (hd:All2 (RD w I) r news) (hrl:r.length=sz) (hlt:∀ b,I b → b < w.heap.size) (hby:bytes≤140737488355328) :
  ∃ (h':HE) (w':World),(Builtin.append_ #[t,t] ty #[.slice none 0 0,.slice A 1 c]).run P w = .ok h'.val w'∧h'.key=key∧h'.rows=[r]∧HArr w' I el sz h'∧Ext No w w'∧h'.blk=w.heap.size:=by
 have h1:∀ u ∈ news,u.oneCell'=true:=fun u hu=>by
  obtain ⟨i,hi⟩:=List.mem_iff_getElem?.1 hu
  have hl:=hd.length
  have hil:i < r.length:=by rw [hl];exact (List.getElem?_eq_some_iff.1 hi).1
  obtain ⟨u',hu',hR⟩:=hd.get i r[i] (List.getElem?_eq_getElem hil)
  rw [hi] at hu'
  cases hu'
  exact hR.one
 obtain ⟨v',w',g1,g2,g3,g4⟩:=run_append_rd w 0 t ty el sz bytes hT (.slice none 0 0) 0 [] (own_nil w 0 el sz) R A 1 c news hr h1 (by simp [maxLen]) (by simpa using hby) (Nat.zero_le _)
 have hE:Ext No w w':=g3.mono fun k hk=>by simp [Value.ownBlock] at hk
 have hst:Stay w I w' I:=⟨hE.size,fun b hb hl=>hE.block b hl fun e=>e,fun _ h=>h⟩
 obtain ⟨h',e1,e2,e3,e4,e5⟩:=harr_of (I:=I) g2 (by omega) hT.pos key (rows:=[r]) (by simp) (fun x hx=>by rw [List.mem_singleton.1 hx];exact hrl) (by
  simp only [List.flatten_cons,List.flatten_nil,List.append_nil,List.nil_append]
  exact hd.mono fun _ _=>RD.stay hst _ _)
 subst e1
 refine ⟨h',w',g1,e2,e3,e4,hE,?_⟩
 rcases g4 with g4|g4
 ·rw [e5] at g4;simp [Value.ownBlock] at g4
 ·rw [e5] at g4
  exact Option.some.inj g4
theorem hmap_lt {w:World} {I:Nat → Prop} {kk:Option KI} {M:Nat} {el:TypeId} {sz:Nat} {hs:List HE} {ms:List MapEntry} {clock:Nat} (h:HMap w I kk M el sz hs ms clock):∀ b,hidB M hs b → b < w.heap.size:=by
 rintro b (rfl|⟨e,he,rfl⟩)
 ·exact (Array.getElem?_eq_some_iff.1 h.map).1
 ·obtain ⟨cur,h1,_⟩:=(h.arr e he).arr
  exact h1.lt
theorem nodup_ix {α:Type} {l:List α}:l.Nodup ↔ ∀ i j,i < j → j < l.length → l[i]?≠l[j]?:=by
 unfold List.Nodup
 rw [List.pairwise_iff_getElem]
 constructor
 ·intro h i j hij hj e
  have hi:i < l.length:=by omega
  rw [List.getElem?_eq_getElem hi,List.getElem?_eq_getElem hj] at e
  exact h i j hi hj hij (Option.some.inj e)
 ·intro h i j hi hj hij e
  exact h i j hij hj (by rw [List.getElem?_eq_getElem hi,List.getElem?_eq_getElem hj,e])
theorem stay_trans {w w1 w2:World} {I I1 I2:Nat → Prop} (h:Stay w I w1 I1) (h':Stay w1 I1 w2 I2):Stay w I w2 I2 :=
 ⟨Nat.le_trans h.size h'.size,fun b hb hl=>(h'.block b (h.sub b hb) (Nat.lt_of_lt_of_le hl h.size)).trans (h.block b hb hl),fun b hb=>h'.sub b (h.sub b hb)⟩
theorem hid_store_new {P:Program} {w w1:World} {I:Nat → Prop} {kk:Option KI} {M:Nat} {el:TypeId} {sz:Nat} {hs:List HE} {ms:List MapEntry} {clock:Nat} {t kt e:TypeId} (hu:P.underlying t=some (.map kt e)) (hku:P.underlying kt=some (descOf kk)∧notW kk=true) {key:MK} (hk:key.kind=kk)
  (hH:HMap w I kk M el sz hs ms clock) (hIM:¬ I M) (hE:Ext No w w1) (habs:key ∉ hs.map HE.key) (hfn:Instr.findNow (descOf kk) key.v ms 0=some none) {h':HE} (h1:h'.key=key) (h2:h'.blk=w.heap.size) (h3:HArr w1 I el sz h') :
  ∃ (ms':List MapEntry) (ck':Nat) (w2:World),(Instr.mapUpdate t (.map (some M)) key.v h'.val).run P w1 = .ok () w2∧HMap w2 I kk M el sz (hs++[h']) ms' ck'∧Ext (· = M) w1 w2:=by
 have hlt:=hmap_lt hH
 have hst:Stay w I w1 I:=⟨hE.size,fun b hb hl=>hE.block b hl fun e=>e,fun _ h=>h⟩
 have hH1:=hH.stay hst fun b hb=>hE.block b (hlt b hb) fun e=>e
 have hb:=hH1.map
 have hfn':Instr.findNow (descOf kk) key.v ms.toArray.toList 0=some none:=by simpa using hfn
 obtain ⟨am,ham⟩:∃ am:Array MapEntry,am=ms.toArray:=⟨_,rfl⟩
 have haml:am.toList=ms:=by rw [ham]
 rw [← ham] at hb hfn'
 have hE2:Ext (· = M) w1 { w1 with heap:=w1.heap.setIfInBounds M (.map (am.push { key:=key.v,val:=h'.val,born:=clock }) (clock+1)) }:=ext_setObj hb
 have hst2:Stay w1 I { w1 with heap:=w1.heap.setIfInBounds M (.map (am.push { key:=key.v,val:=h'.val,born:=clock }) (clock+1)) } I:=⟨hE2.size,fun b hb' hl=>hE2.block b hl fun e=>hIM (e ▸ hb'),fun _ h=>h⟩
 have hMn:=List.nodup_cons.1 hH1.sep
 have hblk:∀ x ∈ hs,x.blk≠M:=fun x hx e=>hMn.1 (List.mem_map.2 ⟨x,hx,e⟩)
 have hM':h'.blk≠M:=by have:=hlt M (.inl rfl);omega
 refine ⟨ms++[{ key:=key.v,val:=h'.val,born:=clock }],clock+1,_,?_,⟨?_,hH1.rows.append ⟨⟨by rw [h1],rfl⟩,trivial⟩,fun x hx=>?_,?_,?_,fun b hb'=>?_,fun x hx=>?_,?_⟩,hE2⟩
 ·simp [Instr.mapUpdate,run_underlying hu,MapKept.run_getObj_map hb,MapKept.run_checkKey hku.1 (mk_isKey hku.2 hk),MapKept.run_findKey hku.1 hfn',MapKept.run_setObj_map _ hb]
 ·have:=(MapKept.heap_set (o':=.map (am.push { key:=key.v,val:=h'.val,born:=clock }) (clock+1)) hb).1
  rw [this]
  have e:am.push { key:=key.v,val:=h'.val,born:=clock }=(ms++[({ key:=key.v,val:=h'.val,born:=clock }:MapEntry)]).toArray:=by
   apply Array.ext'
   rw [Array.toList_push,haml]
  rw [e]
 ·rcases List.mem_append.1 hx with hx|hx
  ·exact hH1.kind x hx
  ·rw [List.mem_singleton.1 hx,h1];exact hk
 ·rw [List.map_append,List.nodup_append]
  refine ⟨hH1.nodup,by simp,?_⟩
  intro a ha b hb2 hab
  simp at hb2
  subst hb2
  exact habs (by rw [← h1,← hab];exact ha)
 ·rw [List.map_append,List.pairwise_append]
  refine ⟨hH1.born,by simp,fun a ha b hb2=>?_⟩
  simp at hb2
  subst hb2
  exact hH1.clock a ha
 ·rw [List.map_append] at hb'
  rcases List.mem_append.1 hb' with hb'|hb'
  ·exact Nat.lt_succ_of_lt (hH1.clock b hb')
  ·simp at hb';subst hb';exact Nat.lt_succ_self _
 ·rcases List.mem_append.1 hx with hx|hx
  ·obtain ⟨cur,c1,_⟩:=(hH1.arr x hx).arr
   exact (hH1.arr x hx).stay hst2 (hE2.block _ c1.lt (hblk x hx))
  ·rw [List.mem_singleton.1 hx]
   obtain ⟨cur,c1,_⟩:=h3.arr
   exact h3.stay hst2 (hE2.block _ c1.lt hM')
 ·rw [List.map_append,List.nodup_cons]
  refine ⟨fun hm=>?_,?_⟩
  ·rcases List.mem_append.1 hm with hm|hm
   ·exact hMn.1 hm
   ·simp at hm;exact hM' hm.symm
  ·rw [List.nodup_append]
   refine ⟨hMn.2,by simp,?_⟩
   intro a ha b hb2 hab
   simp at hb2
   subst hb2
   obtain ⟨x,hx,rfl⟩:=List.mem_map.1 ha
   have:=hlt x.blk (.inr ⟨x,hx,rfl⟩)
   omega
theorem hid_store {P:Program} {w w1:World} {I:Nat → Prop} {kk:Option KI} {M:Nat} {el:TypeId} {sz:Nat} {hs:List HE} {ms:List MapEntry} {clock:Nat} {t kt e:TypeId} (hu:P.underlying t=some (.map kt e)) (hku:P.underlying kt=some (descOf kk)∧notW kk=true) {key:MK} (hk:key.kind=kk)
  (hH:HMap w I kk M el sz hs ms clock) (hIM:¬ I M) {j:Nat} {h h':HE} {m0:MapEntry} (hj:hs[j]? = some h) (hmj:ms[j]? = some m0) (hhk:h.key=key) (hmk:m0.key=key.v) (hIh:¬ I h.blk) (hE:Ext (fun k=>k=h.blk) w w1) (hfn:Instr.findNow (descOf kk) key.v ms 0=some (some (j,h.val)))
  (h1:h'.key=key) (h2:h'.blk=h.blk∨h'.blk=w.heap.size) (h3:HArr w1 I el sz h') :
  ∃ (ms':List MapEntry) (w2:World),(Instr.mapUpdate t (.map (some M)) key.v h'.val).run P w1 = .ok () w2∧HMap w2 I kk M el sz (hs.set j h') ms' clock∧Ext (· = M) w1 w2:=by
 have hlt:=hmap_lt hH
 have hhm:h ∈ hs:=List.mem_of_getElem? hj
 have hMn:=List.nodup_cons.1 hH.sep
 have hblk:∀ x ∈ hs,x.blk≠M:=fun x hx e=>hMn.1 (List.mem_map.2 ⟨x,hx,e⟩)
 have hst:Stay w I w1 I:=⟨hE.size,fun b hb hl=>hE.block b hl fun e=>hIh (e ▸ hb),fun _ h=>h⟩
 have hb:w1.heap[M]? = some (.map ms.toArray clock):=by rw [hE.block M (hlt M (.inl rfl)) fun e=>hblk h hhm e.symm];exact hH.map
 have hfn':Instr.findNow (descOf kk) key.v ms.toArray.toList 0=some (some (j,h.val)):=by simpa using hfn
 have hja:ms.toArray[j]? = some m0:=by simpa using hmj
 obtain ⟨am,ham⟩:∃ am:Array MapEntry,am=ms.toArray:=⟨_,rfl⟩
 have haml:am.toList=ms:=by rw [ham]
 rw [← ham] at hb hfn' hja
 obtain ⟨am',ham'⟩:∃ am',am'=am.modify j fun e=>{ e with key:=key.v,val:=h'.val }:=⟨_,rfl⟩
 have hml:am'.toList=ms.set j { m0 with key:=key.v,val:=h'.val }:=by
  rw [ham',Array.toList_modify,haml,List.modify_eq_set,hmj]
  rfl
 have hE2:Ext (· = M) w1 { w1 with heap:=w1.heap.setIfInBounds M (.map am' clock) }:=ext_setObj hb
 have hst2:Stay w1 I { w1 with heap:=w1.heap.setIfInBounds M (.map am' clock) } I:=⟨hE2.size,fun b hb' hl=>hE2.block b hl fun e=>hIM (e ▸ hb'),fun _ h=>h⟩
 have hM':h'.blk≠M:=by
  rcases h2 with h2|h2
  ·rw [h2];exact hblk h hhm
  ·have:=hlt M (.inl rfl);omega
 have hbs:(ms.set j { m0 with key:=key.v,val:=h'.val }).map MapEntry.born=ms.map MapEntry.born:=by
  rw [List.map_set]
  exact list_set_self (by rw [List.getElem?_map,hmj];rfl)
 have hjl:j < hs.length:=(List.getElem?_eq_some_iff.1 hj).1
 have hoth:∀ i x,hs[i]? = some x → i≠j → x.blk≠h.blk:=fun i x hx hij e=>by
  have hnd:=hMn.2
  rw [nodup_ix] at hnd
  have e1:(hs.map HE.blk)[i]? = some x.blk:=by rw [List.getElem?_map,hx];rfl
  have e2:(hs.map HE.blk)[j]? = some h.blk:=by rw [List.getElem?_map,hj];rfl
  have il:i < (hs.map HE.blk).length:=by rw [List.length_map];exact (List.getElem?_eq_some_iff.1 hx).1
  have jl:j < (hs.map HE.blk).length:=by rw [List.length_map];exact hjl
  rcases Nat.lt_or_gt_of_ne hij with hl|hl
  ·exact hnd i j hl jl (by rw [e1,e2,e])
  ·exact hnd j i hl il (by rw [e1,e2,e])
 refine ⟨ms.set j { m0 with key:=key.v,val:=h'.val },_,?_,⟨?_,hH.rows.set_ j ⟨by rw [h1],rfl⟩,fun x hx=>?_,?_,by rw [hbs];exact hH.born,by rw [hbs];exact hH.clock,fun x hx=>?_,?_⟩,hE2⟩
 ·rw [ham']
  simp [Instr.mapUpdate,run_underlying hu,MapKept.run_getObj_map hb,MapKept.run_checkKey hku.1 (mk_isKey hku.2 hk),MapKept.run_findKey hku.1 hfn',hja,hmk,MapKept.run_keyThatStays (mk_isKey hku.2 hk),MapKept.run_setObj_map _ hb]
 ·have:=(MapKept.heap_set (o':=.map am' clock) hb).1
  rw [this,← hml]
 ·rcases List.mem_or_eq_of_mem_set hx with hx|rfl
  ·exact hH.kind x hx
  ·rw [h1];exact hk
 ·rw [List.map_set,list_set_self (by rw [List.getElem?_map,hj,← hhk.trans h1.symm];rfl)]
  exact hH.nodup
 ·obtain ⟨i,hi⟩:=List.mem_iff_getElem?.1 hx
  by_cases hij:i=j
  ·subst hij
   rw [List.getElem?_set_self hjl] at hi
   cases hi
   obtain ⟨cur,c1,_⟩:=h3.arr
   exact h3.stay hst2 (hE2.block _ c1.lt hM')
  ·rw [List.getElem?_set_ne fun e=>hij e.symm] at hi
   have hxm:x ∈ hs:=List.mem_of_getElem? hi
   have hxl:=hlt x.blk (.inr ⟨x,hxm,rfl⟩)
   refine (hH.arr x hxm).stay (stay_trans hst hst2) ?_
   rw [hE2.block _ (Nat.lt_of_lt_of_le hxl hE.size) (hblk x hxm),hE.block _ hxl (hoth i x hi hij)]
 ·rw [List.nodup_cons,List.map_set]
  have hbn:h'.blk=h.blk∨h'.blk ∉ hs.map HE.blk:=by
   rcases h2 with h2|h2
   ·exact .inl h2
   ·refine .inr fun hm=>?_
    obtain ⟨x,hx,e⟩:=List.mem_map.1 hm
    have:=hlt x.blk (.inr ⟨x,hx,rfl⟩)
    omega
  have hself:h'.blk=h.blk → (hs.map HE.blk).set j h'.blk=hs.map HE.blk:=fun e=>list_set_self (by rw [List.getElem?_map,hj,e];rfl)
  refine ⟨fun hm=>?_,?_⟩
  ·rcases List.mem_or_eq_of_mem_set hm with hm|hm
   ·exact hMn.1 hm
   ·exact hM' hm.symm
  ·rcases hbn with hbn|hbn
   ·rw [hself hbn];exact hMn.2
   ·rw [nodup_ix]
    intro i k hik hkl he
    rw [List.length_set] at hkl
    have hnd:=hMn.2
    rw [nodup_ix] at hnd
    by_cases e1:j=i
    ·subst e1
     rw [List.getElem?_set_self (by omega),List.getElem?_set_ne (by omega)] at he
     exact hbn (List.mem_of_getElem? he.symm)
    ·by_cases e2:j=k
     ·subst e2
      rw [List.getElem?_set_self (by omega),List.getElem?_set_ne (by omega)] at he
      exact hbn (List.mem_of_getElem? he)
     ·rw [List.getElem?_set_ne e1,List.getElem?_set_ne e2] at he
      exact hnd i k hik hkl he
def HE.pr (h:HE):MK × List (List D):=(h.key,h.rows)
def hfindv:List HE → MK → Value
 | [],_=>.slice none 0 0
 | h :: l,k=>if h.key=k then h.val else hfindv l k
def putR:List (MK × List (List D)) → MK → List D → List (MK × List (List D))
 | [],k,r=>[(k,[r])]
 | (a,x) :: l,k,r=>if a=k then (a,x++[r]) :: l else (a,x) :: putR l k r
theorem hfind2 {key:MK}:∀ (hs:List HE),(key ∉ hs.map HE.key∧hfindv hs key = .slice none 0 0∧∀ r,putR (hs.map HE.pr) key r=hs.map HE.pr++[(key,[r])]) ∨
  ∃ j h,hs[j]? = some h∧h.key=key∧(∀ i x,i < j → hs[i]? = some x → x.key≠key)∧hfindv hs key=h.val∧∀ r,putR (hs.map HE.pr) key r=(hs.map HE.pr).set j (key,h.rows++[r])
 | []=>.inl ⟨by simp,rfl,fun _=>rfl⟩
 | x :: hs=>by
  by_cases e:x.key=key
  ·exact .inr ⟨0,x,rfl,e,fun i y hi=>by omega,by simp [hfindv,e],fun r=>by simp [putR,HE.pr,e]⟩
  ·rcases hfind2 hs with ⟨g1,g2,g3⟩|⟨j,h,g1,g2,g3,g4,g5⟩
   ·refine .inl ⟨?_,by rw [hfindv,if_neg e];exact g2,fun r=>by simp [putR,HE.pr,e];exact g3 r⟩
    rw [List.map_cons,List.mem_cons,not_or]
    exact ⟨fun h=>e h.symm,g1⟩
   ·refine .inr ⟨j+1,h,by simpa using g1,g2,fun i y hi hy=>?_,by rw [hfindv,if_neg e];exact g4,fun r=>by simp [putR,HE.pr,e];exact g5 r⟩
    cases i with
    | zero=>simp at hy;subst hy;exact e
    | succ i=>exact g3 i y (by omega) (by simpa using hy)
section
variable {P:Program} {w:World} {I:Nat → Prop} {kk:Option KI} {M:Nat} {el:TypeId} {sz:Nat} {hs:List HE} {ms:List MapEntry} {clock:Nat} {t kt e:TypeId} {key:MK}
theorem hfind3 (hw:notW kk=true) (hk:key.kind=kk) (hH:HMap w I kk M el sz hs ms clock) :
  (key ∉ hs.map HE.key∧hfindv hs key = .slice none 0 0∧(∀ r,putR (hs.map HE.pr) key r=hs.map HE.pr++[(key,[r])])∧Instr.findNow (descOf kk) key.v ms 0=some none) ∨
  ∃ j h m,hs[j]? = some h∧ms[j]? = some m∧h.key=key∧m.key=key.v∧hfindv hs key=h.val∧(∀ r,putR (hs.map HE.pr) key r=(hs.map HE.pr).set j (key,h.rows++[r]))∧Instr.findNow (descOf kk) key.v ms 0=some (some (j,h.val)):=by
 rcases hfind hw hk hs ms 0 hH.rows hH.kind with ⟨a1,a2⟩|⟨j,h,m,a1,a2,a3,a4,a5⟩
 ·rcases hfind2 (key:=key) hs with ⟨g1,g2,g3⟩|⟨j,h,g1,g2,_⟩
  ·exact .inl ⟨a1,g2,g3,a2⟩
  ·exact absurd (List.mem_map.2 ⟨h,List.mem_of_getElem? g1,g2⟩) a1
 ·rcases hfind2 (key:=key) hs with ⟨g1,g2,g3⟩|⟨j',h',g1,g2,g3,g4,g5⟩
  ·exact absurd (List.mem_map.2 ⟨h,List.mem_of_getElem? a1,a3⟩) g1
  ·have hnd:=hH.nodup
   rw [nodup_ix] at hnd
   have e1:(hs.map HE.key)[j]? = some key:=by rw [List.getElem?_map,a1,← a3];rfl
   have e2:(hs.map HE.key)[j']? = some key:=by rw [List.getElem?_map,g1,← g2];rfl
   have l1:=(List.getElem?_eq_some_iff.1 e1).1
   have l2:=(List.getElem?_eq_some_iff.1 e2).1
   have:j=j':=by
    rcases Nat.lt_trichotomy j j' with h1|h1|h1
    ·exact absurd (e1.trans e2.symm) (hnd j j' h1 l2)
    ·exact h1
    ·exact absurd (e2.trans e1.symm) (hnd j' j h1 l1)
   subst this
   rw [a1] at g1
   cases g1
   exact .inr ⟨j,h,m,a1,a2,a3,a4,g4,g5,by simpa using a5⟩
theorem hid_lookup (hu:P.underlying t=some (.map kt e)) (hku:P.underlying kt=some (descOf kk)∧notW kk=true) (hk:key.kind=kk) (hz:∀ w:World,(zeroValue e).run P w = .ok (.slice none 0 0) w) (hH:HMap w I kk M el sz hs ms clock) :
  (Instr.lookup t (.map (some M)) key.v false).run P w = .ok (hfindv hs key) w:=by
 have hb:=hH.map
 rcases hfind3 hku.2 hk hH with ⟨g1,g2,g3,g4⟩|⟨j,h,m,g1,g2,g3,g4,g5,g6,g7⟩
 ·have g4':Instr.findNow (descOf kk) key.v ms.toArray.toList 0=some none:=by simpa using g4
  rw [g2]
  simp [Instr.lookup,run_underlying hu,MapKept.run_getObj_map hb,MapKept.run_checkKey hku.1 (mk_isKey hku.2 hk),MapKept.run_findKey hku.1 g4',hz]
 ·have g7':Instr.findNow (descOf kk) key.v ms.toArray.toList 0=some (some (j,h.val)):=by simpa using g7
  rw [g5]
  simp [Instr.lookup,run_underlying hu,MapKept.run_getObj_map hb,MapKept.run_checkKey hku.1 (mk_isKey hku.2 hk),MapKept.run_findKey hku.1 g7']
theorem hid_put {t2 ty:TypeId} {bytes:Nat} (hu:P.underlying t=some (.map kt e)) (hku:P.underlying kt=some (descOf kk)∧notW kk=true) (hk:key.kind=kk) (hT:SlT P t2 el sz bytes) (hH:HMap w I kk M el sz hs ms clock) (hI:∀ b,hidB M hs b → ¬ I b) (hlt:∀ b,I b → b < w.heap.size)
  {R:Nat → Prop} {A:Option Addr} {c:Nat} {news:List Value} {r:List D} (hr:Rd w R sz A 1 news) (hd:All2 (RD w I) r news) (hrl:r.length=sz) (hmax:∀ h ∈ hs,h.rows.length+1≤maxLen∧(h.rows.length+1) * bytes≤140737488355328) (hby:bytes≤140737488355328) :
  ∃ v' w1,(Builtin.append_ #[t2,t2] ty #[hfindv hs key,.slice A 1 c]).run P w = .ok v' w1∧Ext (hidB M hs) w w1∧v'.oneCell'=true∧w1.heap[M]? = w.heap[M]? ∧
   ∃ (hs':List HE) (ms':List MapEntry) (ck':Nat) (w2:World),(Instr.mapUpdate t (.map (some M)) key.v v').run P w1 = .ok () w2∧HMap w2 I kk M el sz hs' ms' ck'∧hs'.map HE.pr=putR (hs.map HE.pr) key r∧(∀ b,hidB M hs' b → hidB M hs b∨w.heap.size≤b)∧Ext (hidB M hs) w w2∧Ext (· = M) w1 w2:=by
 have hMl:=hmap_lt hH M (.inl rfl)
 have hIM:=hI M (.inl rfl)
 rcases hfind3 hku.2 hk hH with ⟨g1,g2,g3,g4⟩|⟨j,h,m,g1,g2,g3,g4,g5,g6,g7⟩
 ·rw [g2]
  obtain ⟨h',w1,a1,a2,a3,a4,a5,a6⟩:=hid_append0 (ty:=ty) (c:=c) hT key hr hd hrl hlt hby
  obtain ⟨ms',ck',w2,b1,b2,b3⟩:=hid_store_new hu hku hk hH hIM a5 g1 g4 a2 a6 a4
  refine ⟨h'.val,w1,a1,a5.mono fun _ h=>h.elim,rfl,a5.block M hMl fun e=>e,_,ms',ck',w2,b1,b2,?_,?_,?_,b3⟩
  ·rw [g3,List.map_append]
   simp [HE.pr,a2,a3]
  ·rintro b (rfl|⟨x,hx,rfl⟩)
   ·exact .inl (.inl rfl)
   ·rcases List.mem_append.1 hx with hx|hx
    ·exact .inl (.inr ⟨x,hx,rfl⟩)
    ·rw [List.mem_singleton.1 hx];exact .inr (Nat.le_of_eq a6.symm)
  ·exact (a5.mono fun _ h=>h.elim).trans (b3.mono fun b hb=>.inl hb)
 ·rw [g5]
  have hm:h ∈ hs:=List.mem_of_getElem? g1
  have hIh:=hI h.blk (.inr ⟨h,hm,rfl⟩)
  obtain ⟨h',w1,a1,a2,a3,a4,a5,a6⟩:=hid_append (ty:=ty) (c:=c) hT (hH.arr h hm) hr hd hrl hIh hlt (hmax h hm).1 (hmax h hm).2
  obtain ⟨ms',w2,b1,b2,b3⟩:=hid_store hu hku hk hH hIM g1 g2 g3 g4 hIh a5 g7 (a2.trans g3) a6 a4
  refine ⟨h'.val,w1,a1,a5.mono fun b hb=>.inr ⟨h,hm,hb.symm⟩,rfl,a5.block M hMl fun e=>(List.nodup_cons.1 hH.sep).1 (List.mem_map.2 ⟨h,hm,e.symm⟩),_,ms',clock,w2,b1,b2,?_,?_,?_,b3⟩
  ·rw [g6,List.map_set]
   simp only [HE.pr,a2,a3,g3]
  ·rintro b (rfl|⟨x,hx,rfl⟩)
   ·exact .inl (.inl rfl)
   ·rcases List.mem_or_eq_of_mem_set hx with hx|rfl
    ·exact .inl (.inr ⟨x,hx,rfl⟩)
    ·rcases a6 with a6|a6
     ·exact .inl (.inr ⟨h,hm,a6.symm⟩)
     ·exact .inr (Nat.le_of_eq a6.symm)
  ·exact (a5.mono fun b hb=>.inr ⟨h,hm,hb.symm⟩).trans (b3.mono fun b hb=>.inl hb)
end
structure HidP where
 ty:TypeId
 kk:Option KI
 el:TypeId
 sz:Nat
 Bx:Nat
 M:Nat
 Γ0:G
 w0:World
structure HidS (X:HidP) (Γ:G) (w:World) (hs:List HE) (ms:List MapEntry) (ck:Nat):Prop where
 map:HMap w Γ.I X.kk X.M X.el X.sz hs ms ck
 prv:Priv Γ w fun b=>b=X.Bx∨hidB X.M hs b
 box:Blk w X.Bx X.ty #[.map (some X.M)]
 ne:X.Bx≠X.M
 ne2:∀ h ∈ hs,h.blk≠X.Bx
 new:∀ b,b=X.Bx∨hidB X.M hs b → Mine X.Γ0 b∨X.w0.heap.size≤b
abbrev HRows:=List (MK × List (List D))
def Hid (X:HidP) (Γ:G) (w:World) (l:HRows):Prop:=∃ hs ms ck,HidS X Γ w hs ms ck∧hs.map HE.pr=l
theorem Hid.grow {X:HidP} {Γ Γ':G} {w w':World} {l:HRows} {p:Nat} {os:List Ob} (h:Hid X Γ w l) (hm:MemOk Γ os w) (hg:Grow p Γ w Γ' w'):Hid X Γ' w' l:=by
 obtain ⟨hs,ms,ck,h1,h2⟩:=h
 obtain ⟨p1,p2⟩:=h1.prv.grow hg
 refine ⟨hs,ms,ck,⟨h1.map.stay (hg.stay hm) fun b hb=>p2 b (.inr hb),p1,?_,h1.ne,h1.ne2,h1.new⟩,h2⟩
 unfold Blk
 rw [p2 X.Bx (.inl rfl)]
 exact h1.box
def HPost (z N p:Nat) (X:HidP) (Q:Exit → S → HRows → Prop):Exit → Act → World → Prop:=fun e a' w'=>∃ s' Γ' l',Q e s' l'∧Stands N p Γ' s' a' w'∧Grow p X.Γ0 X.w0 Γ' w'∧DefOk z Γ' a' w'∧Hid X Γ' w' l'
def HW (rd:Option Nat) (P:Program) (N p z:Nat) (X:HidP) (c:Code) (Q:Exit → S → HRows → Prop) (s:S) (l:HRows):Prop :=
 ∀ Γ a w,Stands N p Γ s a w → Grow p X.Γ0 X.w0 Γ w → DefOk z Γ a w → Hid X Γ w l → Code.wpIn (Fw rd) 0 P c (HPost z N p X Q) a w
def thenH (K:S → HRows → Prop) (Q:Exit → S → HRows → Prop):Exit → S → HRows → Prop
 | .normal,s,l=>K s l
 | e,s,l=>Q e s l
def inH (id:Nat) (Q:Exit → S → HRows → Prop):Exit → S → HRows → Prop
 | .exit j,s,l=>if j=id then Q .normal s l else Q (.exit j) s l
 | e,s,l=>Q e s l
section
variable {rd:Option Nat} {P:Program} {N p z:Nat} {X:HidP} {Q:Exit → S → HRows → Prop} {s:S} {l:HRows}
theorem hw_lift {c:Code} (h:PWPr rd P N p c (fun e s'=>Q e s' l) s):HW rd P N p z X c Q s l:=fun Γ a w hA hG hD hH=>by
 refine wpIn_mono (h z Γ a w hA hD) ?_
 rintro e a' w' ⟨s2,Γ2,q,hA2,hg,hd⟩
 exact ⟨s2,Γ2,l,q,hA2,hG.trans hg,hd,hH.grow hA.inv.m hg⟩
theorem hw_mono {c:Code} {Q':Exit → S → HRows → Prop} (h:HW rd P N p z X c Q' s l) (hq:∀ e s l,Q' e s l → Q e s l):HW rd P N p z X c Q s l:=fun Γ a w hA hG hD hH=>by
 refine wpIn_mono (h Γ a w hA hG hD hH) ?_
 rintro e a' w' ⟨s2,Γ2,l2,q,r⟩
 exact ⟨s2,Γ2,l2,hq _ _ _ q,r⟩
theorem hw_weak {c:Code} {s':S} (hw:Weak N p s s') (h:HW rd P N p z X c Q s' l):HW rd P N p z X c Q s l:=fun Γ a w hA hG hD hH=>by
 obtain ⟨Γ1,h1,g1⟩:=hw Γ a w hA
 exact h Γ1 a w h1 (hG.trans g1) (hD.grow g1 rfl) (hH.grow hA.inv.m g1)
theorem hw_seq {x y:Code} (h:HW rd P N p z X x (thenH (fun s' l'=>HW rd P N p z X y Q s' l') Q) s l):HW rd P N p z X (.seq x y) Q s l:=fun Γ a w hA hG hD hH=>by
 refine wpIn_seq (wpIn_mono (h Γ a w hA hG hD hH) ?_)
 rintro e a' w' ⟨s2,Γ2,l2,q,hA2,hg,hd,hh⟩
 cases e with
 | normal=>exact q Γ2 a' w' hA2 hg hd hh
 | exit j=>exact ⟨s2,Γ2,l2,q,hA2,hg,hd,hh⟩
 | goto l=>exact ⟨s2,Γ2,l2,q,hA2,hg,hd,hh⟩
 | ret=>exact ⟨s2,Γ2,l2,q,hA2,hg,hd,hh⟩
 | panic ch=>exact ⟨s2,Γ2,l2,q,hA2,hg,hd,hh⟩
 | outgrown=>exact ⟨s2,Γ2,l2,q,hA2,hg,hd,hh⟩
theorem hw_block {id:Nat} {c:Code} (h:HW rd P N p z X c (inH id Q) s l):HW rd P N p z X (.block id c) Q s l:=fun Γ a w hA hG hD hH=>by
 refine wpIn_block (wpIn_mono (h Γ a w hA hG hD hH) ?_)
 rintro e a' w' ⟨s2,Γ2,l2,q,hA2,hg,hd,hh⟩
 cases e with
 | exit j =>
  simp only [inH] at q
  simp only [Exit.inBlock]
  split
  ·rename_i hj;rw [if_pos hj] at q;exact ⟨s2,Γ2,l2,q,hA2,hg,hd,hh⟩
  ·rename_i hj;rw [if_neg hj] at q;exact ⟨s2,Γ2,l2,q,hA2,hg,hd,hh⟩
 | normal=>exact ⟨s2,Γ2,l2,q,hA2,hg,hd,hh⟩
 | goto l=>exact ⟨s2,Γ2,l2,q,hA2,hg,hd,hh⟩
 | ret=>exact ⟨s2,Γ2,l2,q,hA2,hg,hd,hh⟩
 | panic ch=>exact ⟨s2,Γ2,l2,q,hA2,hg,hd,hh⟩
 | outgrown=>exact ⟨s2,Γ2,l2,q,hA2,hg,hd,hh⟩
theorem hw_cond {c:Operand} {x y:Code} (h:condK (s.ev c) (HW rd P N p z X x Q s l) (HW rd P N p z X y Q s l)):HW rd P N p z X (.cond c x y) Q s l:=fun Γ a w hA hG hD hH=>by
 unfold condK at h
 split at h
 ·rename_i t X' Y' e
  have hc:=(S.ev_ok e hA.inv).1
  exact wpIn_cond_split hc (fun ht=>h.1 ht Γ a w hA hG hD hH) (fun ht=>h.2 ht Γ a w hA hG hD hH)
 ·exact h.elim
theorem hw_skip (h:Q .normal s l):HW rd P N p z X .skip Q s l:=fun Γ a w hA hG hD hH=>wpIn_skip ⟨s,Γ,l,h,hA,hG,hD,hH⟩
theorem hw_exit {id:Nat} (h:Q (.exit id) s l):HW rd P N p z X (.exit id) Q s l:=fun Γ a w hA hG hD hH=>wpIn_exit ⟨s,Γ,l,h,hA,hG,hD,hH⟩
theorem hw_loop {c:Code} {α:Type} (Φ:α → Prop) (St:α → S) (L:α → HRows) (μ:α → Nat) (x0:α) (h0:Φ x0) (hw:Weak N p s (St x0)) (hl:l=L x0)
  (round:∀ x,Φ x → HW rd P N p z X c (thenH (fun s' l'=>∃ x',Weak N p s' (St x')∧l'=L x'∧Φ x'∧μ x' < μ x) Q) (St x) (L x)):HW rd P N p z X (.loop c) Q s l:=fun Γ a w hA hG hD hH=>by
 obtain ⟨Γ1,h1,g1⟩:=hw Γ a w hA
 refine wpIn_loop_ghost (fun n a' w'=>∃ x Γ',Φ x∧Stands N p Γ' (St x) a' w'∧Grow p X.Γ0 X.w0 Γ' w'∧DefOk z Γ' a' w'∧Hid X Γ' w' (L x)∧μ x=n) (μ x0) ⟨x0,Γ1,h0,h1,hG.trans g1,hD.grow g1 rfl,hl ▸ hH.grow hA.inv.m g1,rfl⟩ ?_
 rintro n a' w' ⟨x,Γ',hx,hA',hg',hd1,hh',rfl⟩
 refine wpIn_mono (round x hx Γ' a' w' hA' hg' hd1 hh') ?_
 rintro e a2 w2 ⟨s2,Γ2,l2,q,hA2,hg2,hd2,hh2⟩
 cases e with
 | normal =>
  obtain ⟨x',hw',rfl,hx',hlt⟩:=q
  obtain ⟨Γ3,hA3,hg3⟩:=hw' Γ2 a2 w2 hA2
  exact ⟨μ x',hlt,x',Γ3,hx',hA3,hg2.trans hg3,hd2.grow hg3 rfl,hh2.grow hA2.inv.m hg3,rfl⟩
 | exit j=>exact ⟨s2,Γ2,l2,q,hA2,hg2,hd2,hh2⟩
 | goto l=>exact ⟨s2,Γ2,l2,q,hA2,hg2,hd2,hh2⟩
 | ret=>exact ⟨s2,Γ2,l2,q,hA2,hg2,hd2,hh2⟩
 | panic ch=>exact ⟨s2,Γ2,l2,q,hA2,hg2,hd2,hh2⟩
 | outgrown=>exact ⟨s2,Γ2,l2,q,hA2,hg2,hd2,hh2⟩
end
def isC:PV → Bool
 | .c _=>true
 | _=>false
def hidT (t:List (Nat × PV)):Bool:=t.all fun x=>x.2.keys.isEmpty || isC x.2
def anyT (x:Nat × PV):Nat × PV:=if x.2.keys.isEmpty then x else (x.1,.c .any)
theorem look_anyT:∀ {t:List (Nat × PV)} {i:Nat} {q:PV},look (t.map anyT) i=some q → ∃ q',look t i=some q'∧(i,q)=anyT (i,q')
 | [],i,q,h=>by simp [look] at h
 | (d,r) :: t,i,q,h=>by
  have hd:(anyT (d,r)).1=d:=by unfold anyT;split<;>rfl
  simp only [List.map_cons] at h
  obtain ⟨d',r',e⟩:∃ d' r',anyT (d,r)=(d',r'):=⟨_,_,rfl⟩
  rw [e] at h hd
  simp only at hd
  subst hd
  simp only [look] at h ⊢
  split at h
  ·rename_i hid
   subst hid
   cases h
   exact ⟨r,by simp,e.symm⟩
  ·rename_i hid
   rw [if_neg hid]
   exact look_anyT h
theorem hidT_look:∀ {t:List (Nat × PV)} {i:Nat} {q:PV},hidT t=true → look t i=some q → (q.keys.isEmpty || isC q)=true
 | [],i,q,_,h=>by simp [look] at h
 | (d,r) :: t,i,q,ht,h=>by
  unfold hidT at ht
  rw [List.all_cons,Bool.and_eq_true] at ht
  simp only [look] at h
  split at h
  ·cases h;exact ht.1
  ·exact hidT_look ht.2 h
theorem hid_hide {N:Nat} {Γ:G} {t:List (Nat × PV)} {a:Act} {w:World} {kk:Option KI} {ty:TypeId} (el:TypeId) (sz:Nat) {os:List Ob} {m:Nat} (hom:os[m]? = some (.map kk false [])) (hob:os[m+1]? = some (.box ty [.mp m])) (hA:Stands N 0 Γ ⟨t,os⟩ a w) {i:Nat} (hi:look t i=some (.c (.ptr (m+1) 0))) (ht:hidT t=true) :
  ∃ Γ1 Bx M,Stands N 0 Γ1 ⟨(i,.c (.v (.pointer (some ⟨Bx,0,none⟩)))) :: t.map anyT,[]⟩ a w∧Grow 0 Γ w Γ1 w∧Hid ⟨ty,kk,el,sz,Bx,M,Γ,w⟩ Γ1 w []:=by
 have hm:=hA.inv.m
 have hn:m+1 < Γ.n:=by rw [hm.n];exact (List.getElem?_eq_some_iff.1 hob).1
 obtain ⟨c0,ms,ck,b0,r0⟩:=hm.ob m _ hom
 obtain ⟨c1,xs,b1,r1,_⟩:=hm.ob (m+1) _ hob
 obtain ⟨y,xs',rfl,⟨_,rfl⟩,r2⟩:=All2.cons_l.1 r1
 rw [All2.nil_l] at r2
 subst r2
 have hms:ms.toList=[]:=by have:=r0.rows;rwa [All2.nil_l] at this
 obtain ⟨Γ1,hΓ1⟩:∃ Γ1:G,Γ1=⟨0,Γ.β,Γ.cap,Γ.I⟩:=⟨_,rfl⟩
 have hI1:Γ1.I=Γ.I:=by rw [hΓ1]
 have hs:Stay w Γ.I w Γ1.I:=by rw [hI1];exact Stay.refl _ _
 have hne:Γ.β (m+1)≠Γ.β m:=fun e=>by have:=hm.sep (m+1) m (by omega) (by omega) c1 c0 e;omega
 have o0:=hm.off m (by omega) c0
 have o1:=hm.off (m+1) (by omega) c1
 have l0:Γ.β m < w.heap.size:=(Array.getElem?_eq_some_iff.1 b0).1
 have hg:Grow 0 Γ w Γ1 w:=⟨Ext.refl _ w,fun b hb=>by rw [hI1];exact hb,fun k hk=>by rw [hΓ1] at hk;exact absurd hk (Nat.not_lt_zero _),fun b hb=>.inl (by rw [hI1] at hb;exact hb),fun k hk=>by omega⟩
 have hno:∀ b,¬ Mine Γ1 b:=fun b ⟨k,hk,_⟩=>by rw [hΓ1] at hk;exact absurd hk (Nat.not_lt_zero _)
 refine ⟨Γ1,Γ.β (m+1),Γ.β m,⟨⟨hA.inv.size,trivial,fun j q hq=>?_,⟨by rw [hΓ1];rfl,fun k o ho=>by simp at ho,fun k k' hk=>by rw [hΓ1] at hk;exact absurd hk (Nat.not_lt_zero _),fun k hk=>by rw [hΓ1] at hk;exact absurd hk (Nat.not_lt_zero _),fun b hb=>hm.lt b (by rw [hI1] at hb;exact hb),hm.pins hs⟩⟩,Nat.zero_le _⟩,hg,[],[],ck,⟨⟨?_,trivial,(fun h hh=>by cases hh),List.nodup_nil,List.Pairwise.nil,(fun b hb=>by cases hb),(fun h hh=>by cases hh),by simp⟩,⟨fun b hb=>?_,fun b hb=>?_,fun b _=>hno b⟩,b1,hne,(fun h hh=>by cases hh),fun b hb=>?_⟩,rfl⟩
 ·simp only [S.get,look] at hq
  split at hq
  ·rename_i e
   subst e
   cases hq
   obtain ⟨h1,h2,h3⟩:=hA.inv.t j _ hi
   exact ⟨h1,h3,rfl⟩
  ·obtain ⟨q',h1,h2⟩:=look_anyT hq
   obtain ⟨h3,h4⟩:=hA.inv.t j q' h1
   refine ⟨h3,?_⟩
   unfold anyT at h2
   split at h2
   ·rename_i hk
    cases h2
    refine h4.stay hs fun k hk'=>?_
    simp only [List.isEmpty_iff] at hk
    rw [hk] at hk'
    cases hk'
   ·rename_i hk
    cases h2
    have h5:=hidT_look ht h1
    rw [Bool.or_eq_true] at h5
    rcases h5 with h5|h5
    ·exact absurd h5 hk
    ·cases q' with
     | c e=>exact RE.one h4
     | _=>simp [isC] at h5
 ·rw [b0]
  have:ms = #[]:=by apply Array.ext';rw [hms]
  rw [this]
 ·rcases hb with rfl|rfl|⟨h,hh,_⟩
  ·exact b1.lt
  ·exact l0
  ·cases hh
 ·rw [hI1]
  rcases hb with rfl|rfl|⟨h,hh,_⟩
  ·exact o1
  ·exact o0
  ·cases hh
 ·rcases hb with rfl|rfl|⟨h,hh,_⟩
  ·exact .inl ⟨m+1,(show m+1 < Γ.n by omega),c1,rfl⟩
  ·exact .inl ⟨m,(show m < Γ.n by omega),c0,rfl⟩
  ·cases hh
def rowsD (sz:Nat) (l:HRows):List (MK × List D):=l.map fun x=>(x.1,[.sl sz x.2])
theorem hid_shown {N p z:Nat} {X:HidP} {Γ:G} {s:S} {a:Act} {w:World} {l:HRows} (hA:Stands N p Γ s a w) (hg:Grow p X.Γ0 X.w0 Γ w) (hD:DefOk z Γ a w) (hH:Hid X Γ w l) {i:Nat} (hi:s.get i=some (.c (.v (.pointer (some ⟨X.Bx,0,none⟩))))) :
  ∃ Γ',Stands N p Γ' ⟨(i,.c (.ptr (s.o.length+1) 0)) :: s.t,s.o++[.map X.kk false (rowsD X.sz l)]++[.box X.ty [.mp s.o.length]]⟩ a w∧Grow p X.Γ0 X.w0 Γ' w∧DefOk z Γ' a w:=by
 obtain ⟨hs,ms,ck,h1,rfl⟩:=hH
 have e:rowsD X.sz (hs.map HE.pr)=hs.map (HE.row X.sz):=by unfold rowsD;rw [List.map_map];rfl
 rw [e]
 obtain ⟨Γ',g1,g2,g3⟩:=hid_show hA h1.map h1.box h1.prv h1.ne h1.ne2 hg h1.new hi
 refine ⟨Γ',g1,g2,hD.1,hD.2.1,fun d hd=>?_⟩
 obtain ⟨D,d1,d2,d3,d4⟩:=hD.2.2 d hd
 refine ⟨D,d1,d2,g3 D d3 (fun e=>?_) (fun hb=>?_),d4⟩
 ·have:=h1.box
  unfold Blk at this
  rw [← e,d2] at this
  cases this
 ·rcases hb with rfl|⟨h,hh,rfl⟩
  ·have:=h1.map.map
   rw [d2] at this
   cases this
  ·obtain ⟨cur,c1,_⟩:=(h1.map.arr h hh).arr
   unfold Blk at c1
   rw [d2] at c1
   cases c1
end Go.Proofs.YthhfpcbpiphfiaaGreatDoor
