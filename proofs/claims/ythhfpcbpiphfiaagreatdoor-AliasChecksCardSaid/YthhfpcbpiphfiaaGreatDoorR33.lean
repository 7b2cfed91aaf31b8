/- What the program computes, and the plain laws of it, part 33. -/
import Derived.WideKeyEntry
import Derived.Test.YthhfpcbpiphfiaaGreatDoorR32
namespace Go.Proofs.YthhfpcbpiphfiaaGreatDoor
attribute [local irreducible] PL QL PWPr PCalls Weak RetK Kontr PA
open Go.RowKit
open IntWalk renaming iteOmega → iO, toNatUp → tN
set_option linter.unusedVariables false
set_option linter.unusedSimpArgs false
set_option maxRecDepth 20000
structure FewA (c:Cfg):Prop where
 mods:c.modules.length≤100
 als:∀ m ∈ c.modules,m.aliases.length≤100
 ext:c.extra.length≤100
 bl:c.blocked.length≤1000000
def entJ (bl:List ByteArray) (m:Mod) (j:Nat):List Ent:=if inM m.name bl then [] else (m.aliases.take j).map fun p=>⟨p,m.name⟩
theorem entJ_zero (bl:List ByteArray) (m:Mod):entJ bl m 0=[]:=by unfold entJ;split<;>simp
theorem entJ_end (bl:List ByteArray) (m:Mod):entJ bl m m.aliases.length=entM bl m:=by unfold entJ entM;rw [List.take_length]
theorem entJ_skip {bl:List ByteArray} {m:Mod} (h:inM m.name bl=true) (j k:Nat):entJ bl m j=entJ bl m k:=by unfold entJ;rw [if_pos h,if_pos h]
theorem entJ_next {bl:List ByteArray} {m:Mod} (h:inM m.name bl=false) {j:Nat} (hj:j < m.aliases.length):entJ bl m (j+1)=entJ bl m j++[⟨m.aliases.getD j default,m.name⟩]:=by
 unfold entJ
 rw [if_neg (by simp [h]),if_neg (by simp [h]),List.take_succ_eq_append_getElem hj,List.map_append,getD_lt m.aliases hj]
 rfl
theorem entJ_len (bl:List ByteArray) (m:Mod) (j:Nat):(entJ bl m j).length≤m.aliases.length:=by
 unfold entJ
 split
 ·simp
 ·simp only [List.length_map,List.length_take];omega
theorem entM_len (bl:List ByteArray) (m:Mod):(entM bl m).length≤m.aliases.length:=by rw [← entJ_end];exact entJ_len _ _ _
theorem entX_len (M:List Mod) (x:Ext2):(entX M x).length≤1:=by unfold entX;split<;>simp
theorem fm_next {α β:Type} [Inhabited α] (f:α → List β) {l:List α} {k:Nat} (hk:k < l.length):(l.take (k+1)).flatMap f=(l.take k).flatMap f++f (l.getD k default):=by
 rw [List.take_succ_eq_append_getElem hk,List.flatMap_append,getD_lt l hk]
 simp
theorem entsC_len {c:Cfg} (h:FewA c):(entsC c).length≤10100:=by
 have h1:=flat_len (entM c.blocked) 100 c.modules (fun m hm=>Nat.le_trans (entM_len _ _) (h.als m hm))
 have h2:=flat_len (entX c.modules) 1 c.extra (fun x _=>entX_len _ x)
 have:=h.mods
 have:=h.ext
 unfold entsC
 rw [List.length_append]
 omega
set_option maxHeartbeats 4000000 in
theorem entries_pure (c:Cfg) (hc:FewA c) :
  PCalls Tryz.prog 32 [.agg c.e] [] fun r os=>r = .c (.sl 2 ((entsC c).map Ent.d))∧os=[]:=by
 have hcm:=hc.mods
 have hcx:=hc.ext
 refine pcalls_of Tryz.func32 rfl (by simp [Tryz.ntmps32]) ?_
 rw [Tryz.ntmps32,Tryz.results32]
 push_cast [iO,tN]
 have cB:CutB 11 [13,14,15,23,24,25,45,46,47]:=trivial
 repeat' (first|((first|refine pC ?_|refine pQC ?_|refine pU ?_);push_cast [iO,tN])|(refine pif (fun h=>?_) (fun h=>?_)<;>first|exact pN h|push_cast [iO,tN]))
 refine pwp_weak (weak_adopt 3 94 2 (by omega) (by push_cast [iO,tN])) ?_
 push_cast [iO,tN]
 (apply pwp_loop3 (α:=Nat × List Ent × List ByteArray) 11 [13,14,15,23,24,25,45,46,47] (fun x=>[(15,.c (.v (.int .i64 x.1))),(3,.c (.own 2 (x.2.1.length)))]) (fun x=>[(1,.map none false (setE x.2.2)),(2,.arr 94 2 (x.2.1.map Ent.d))]) (fun x=>x.1≤c.modules.length∧x.2.1=(c.modules.take x.1).flatMap (entM c.blocked)∧x.2.2.length≤x.1∧∀ s,s ∈ x.2.2 ↔ s ∈ (c.modules.take x.1).map Mod.name) (fun x=>c.modules.length - x.1) ((0,[],[]));(focus ((try push_cast [iO,tN]);rfl));(focus exact ⟨by omega,by simp,by simp,by simp⟩);(focus ((refine weak_fg ?_;try push_cast [iO,tN]))))
 rintro ⟨k,l,T⟩ ⟨hk,hl,hTl,hT⟩
 simp only at hk hl hTl hT ⊢
 push_cast [iO,tN]
 by_cases hlt:k < c.modules.length
 ·have hm:c.modules.getD k default ∈ c.modules:=by rw [getD_lt _ hlt];exact List.getElem_mem _
  obtain ⟨m,hmd⟩:∃ m,c.modules.getD k default=m:=⟨_,rfl⟩
  have hal:=hc.als _ hm
  have hnx:=fm_next (entM c.blocked) hlt
  have hT2:∀ s,s ∈ addS T m.name ↔ s ∈ (c.modules.take (k+1)).map Mod.name:=fun s=>by
   rw [mem_addS,hT,List.take_succ_eq_append_getElem hlt,List.map_append,List.mem_append,← getD_lt _ hlt,hmd]
   simp
  have hTl2:(addS T m.name).length≤k+1:=by
   unfold addS
   split
   ·omega
   ·simp only [List.length_append,List.length_cons,List.length_nil];omega
  rw [hmd] at hal hnx hm
  have hll:l.length≤k * 100:=by
   rw [hl]
   refine Nat.le_trans (flat_len (entM c.blocked) 100 _ (fun y hy=>Nat.le_trans (entM_len _ _) (hc.als y (List.mem_of_mem_take hy)))) ?_
   rw [List.length_take]
   exact Nat.mul_le_mul_right _ (Nat.min_le_left _ _)
  have hk100:k * 100≤10000:=by omega
  repeat' (first|((first|refine pC ?_|refine pQC ?_|refine pU ?_);push_cast [iO,tN,hmd])|(refine pif (fun h=>?_) (fun h=>?_)<;>first|exact pN h|push_cast [iO,tN,hmd]))
  (apply pwp_loop3 (α:=Nat × List Ent) 11 [13,14,15,23,24,25,45,46,47] (fun y=>[(25,.c (.v (.int .i64 y.1))),(3,.c (.own 2 (y.2.length)))]) (fun y=>[(2,.arr 94 2 (y.2.map Ent.d))]) (fun y=>y.1≤m.aliases.length∧y.2=l++entJ c.blocked m y.1∧y.2.length≤10000+y.1) (fun y=>m.aliases.length - y.1) ((0,l));(focus ((try push_cast [iO,tN]);rfl));(focus exact ⟨by omega,by rw [entJ_zero,List.append_nil],by (simp only;omega)⟩);(focus ((refine weak_fg ?_;try push_cast [iO,tN]))))
  rintro ⟨j,l2⟩ ⟨hj,hl2,hlb⟩
  simp only at hj hl2 hlb ⊢
  push_cast [iO,tN]
  by_cases hj2:j < m.aliases.length
  ·cases hb:inM m.name c.blocked with
   | true =>
    have hsk:=entJ_skip hb j (j+1)
    have hcon:=containsD_pure c.blocked m.name (by have:=hc.bl;omega)
    rw [hb] at hcon
    repeat' (first |  ((refine plc [] (hcon) ?_ ?_;push_cast [iO,tN];rintro r os ⟨rfl,rfl⟩;push_cast [iO,tN]))  | ((first|refine pC ?_|refine pQC ?_|refine pU ?_);push_cast [iO,tN])|(refine pif (fun h=>?_) (fun h=>?_)<;>first|exact pN h|push_cast [iO,tN]))
    exact ⟨(j+1,l2),⟨by simp only;omega,by simp only;rw [← hsk];exact hl2,by simp only;omega⟩,by (refine weak_fg ?_;push_cast [iO,tN]),by simp only;omega⟩
   | false =>
    have hnx2:=entJ_next hb hj2
    have hcon:=containsD_pure c.blocked m.name (by have:=hc.bl;omega)
    rw [hb] at hcon
    repeat' (first |  ((refine plc [] (hcon) ?_ ?_;push_cast [iO,tN];rintro r os ⟨rfl,rfl⟩;push_cast [iO,tN]))  | ((first|refine pC ?_|refine pQC ?_|refine pU ?_);push_cast [iO,tN])|(refine pif (fun h=>?_) (fun h=>?_)<;>first|exact pN h|push_cast [iO,tN]))
    exact ⟨(j+1,l2++[⟨m.aliases.getD j default,m.name⟩]),⟨by simp only;omega,by simp only;rw [hnx2,hl2,List.append_assoc],by simp only [List.length_append,List.length_cons,List.length_nil];omega⟩,by (refine weak_fg ?_;push_cast [iO,tN,Ent.d]),by simp only;omega⟩
  ·have hj3:j=m.aliases.length:=by omega
   rw [hj3,entJ_end,hl,← hnx] at hl2
   repeat' (first|((first|refine pC ?_|refine pQC ?_|refine pU ?_);push_cast [iO,tN])|(refine pif (fun h=>?_) (fun h=>?_)<;>first|exact pN h|push_cast [iO,tN]))
   exact ⟨(k+1,l2,addS T m.name),⟨by simp only;omega,hl2,hTl2,hT2⟩,by (refine weak_fg ?_;push_cast [iO,tN]),by simp only;omega⟩
 ·have hk2:k=c.modules.length:=by omega
  rw [hk2,List.take_length] at hl hT
  have hT3:∀ s,inM s T=inM s (c.modules.map Mod.name):=fun s=>by rw [Bool.eq_iff_iff,inM_iff,inM_iff];exact hT s
  have hll:l.length≤10000:=by
   rw [hl]
   refine Nat.le_trans (flat_len (entM c.blocked) 100 _ (fun y hy=>Nat.le_trans (entM_len _ _) (hc.als y hy))) ?_
   omega
  repeat' (first|((first|refine pC ?_|refine pQC ?_|refine pU ?_);push_cast [iO,tN])|(refine pif (fun h=>?_) (fun h=>?_)<;>first|exact pN h|push_cast [iO,tN]))
  (apply pwp_loop3 (α:=Nat × List Ent) 11 [13,14,15,23,24,25,45,46,47] (fun y=>[(47,.c (.v (.int .i64 y.1))),(3,.c (.own 2 (y.2.length)))]) (fun y=>[(2,.arr 94 2 (y.2.map Ent.d))]) (fun y=>y.1≤c.extra.length∧y.2=l++(c.extra.take y.1).flatMap (entX c.modules)∧y.2.length≤10000+y.1) (fun y=>c.extra.length - y.1) ((0,l));(focus ((try push_cast [iO,tN]);rfl));(focus exact ⟨by omega,by simp,by (simp only;omega)⟩);(focus ((refine weak_fg ?_;try push_cast [iO,tN]))))
  rintro ⟨j,l2⟩ ⟨hj,hl2,hlb⟩
  simp only at hj hl2 hlb ⊢
  push_cast [iO,tN]
  by_cases hj2:j < c.extra.length
  ·have hnx:=fm_next (entX c.modules) hj2
   obtain ⟨x,hx⟩:∃ x,c.extra.getD j default=x:=⟨_,rfl⟩
   rw [hx] at hnx
   cases hb:inM x.value T with
   | true =>
    have he:entX c.modules x=[⟨x.name,x.value⟩]:=by unfold entX;rw [if_pos (by rw [← hT3,hb])]
    rw [he] at hnx
    repeat' (first|((first|refine pC ?_|refine pQC ?_|refine pU ?_);push_cast [iO,tN,hx,hb])|(refine pif (fun h=>?_) (fun h=>?_)<;>first|exact pN h|push_cast [iO,tN,hx,hb]))
    exact ⟨(j+1,l2++[⟨x.name,x.value⟩]),⟨by simp only;omega,by simp only;rw [hnx,hl2,List.append_assoc],by simp only [List.length_append,List.length_cons,List.length_nil];omega⟩,by (refine weak_fg ?_;push_cast [iO,tN,Ent.d]),by simp only;omega⟩
   | false =>
    have he:entX c.modules x=[]:=by unfold entX;rw [if_neg (by rw [← hT3,hb];simp)]
    rw [he,List.append_nil] at hnx
    repeat' (first|((first|refine pC ?_|refine pQC ?_|refine pU ?_);push_cast [iO,tN,hx,hb])|(refine pif (fun h=>?_) (fun h=>?_)<;>first|exact pN h|push_cast [iO,tN,hx,hb]))
    exact ⟨(j+1,l2),⟨by simp only;omega,by simp only;rw [hnx];exact hl2,by simp only;omega⟩,by (refine weak_fg ?_;push_cast [iO,tN]),by simp only;omega⟩
  ·have hj3:j=c.extra.length:=by omega
   rw [hj3,List.take_length] at hl2
   have hR:l2=entsC c:=by rw [hl2,hl];rfl
   have htk:=List.take_of_length_le (l:=l2.map Ent.d) (i:=l2.length) (by simp)
   refine pwp_weak (weak_frz 2 (Nat.zero_le _)) ?_
   push_cast [iO,tN,htk]
   repeat' (first|((first|refine pC ?_|refine pQC ?_|refine pU ?_);push_cast [iO,tN])|(refine pif (fun h=>?_) (fun h=>?_)<;>first|exact pN h|push_cast [iO,tN]))
   (refine retK_of [] ?_;push_cast [iO,tN,hR])
end Go.Proofs.YthhfpcbpiphfiaaGreatDoor
namespace Go.Proofs.YthhfpcbpiphfiaaGreatDoor
open Go.RowKit
open IntWalk renaming iteOmega → iO, toNatUp → tN
set_option linter.unusedVariables false
set_option linter.unusedSimpArgs false
theorem stay_priv {Γ:G} {w w1:World} {B:Nat → Prop} (hB:Priv Γ w B) (hE:Ext B w w1):Stay w Γ.I w1 Γ.I:=⟨hE.size,fun b hb hl=>hE.block b hl fun h=>hB.imm b h hb,fun _ h=>h⟩
theorem memOk_priv {Γ:G} {os:List Ob} {w w1:World} {B:Nat → Prop} (hm:MemOk Γ os w) (hB:Priv Γ w B) (hE:Ext B w w1):MemOk Γ os w1:=by
 have hs:=stay_priv hB hE
 refine ⟨hm.n,fun k o ho=>?_,hm.sep,hm.off,fun b hb=>Nat.lt_of_lt_of_le (hm.lt b hb) hE.size,hm.pins hs⟩
 have hk:k < Γ.n:=by rw [hm.n];exact (List.getElem?_eq_some_iff.1 ho).1
 exact (hm.ob k o ho).stay hs (fun j hj=>⟨hj,rfl,rfl⟩) hk fun hc=>hE.block _ (mine_lt hm hk hc) fun h=>hB.own _ h ⟨k,hk,hc,rfl⟩
theorem stands_priv {N p:Nat} {Γ:G} {s:S} {a:Act} {w w1:World} {B:Nat → Prop} (hA:Stands N p Γ s a w) (hB:Priv Γ w B) (hE:Ext B w w1):Stands N p Γ s a w1 :=
 ⟨hA.inv.heap (memOk_priv hA.inv.m hB hE) (stay_priv hB hE) fun j hj=>⟨hj,rfl,rfl⟩,hA.le⟩
theorem grow_priv {p:Nat} {Γ0 Γ:G} {w0 w w1:World} {B:Nat → Prop} (hg:Grow p Γ0 w0 Γ w) (hE:Ext B w w1) (hn:∀ b,B b → Mine Γ0 b∨w0.heap.size≤b):Grow p Γ0 w0 Γ w1 :=
 ⟨hg.ext.trans_new hE hn,hg.sub,hg.new,hg.imm,hg.keep⟩
theorem hid_nodef {X:HidP} {Γ:G} {w:World} {hs:List HE} {ms:List MapEntry} {ck:Nat} (h1:HidS X Γ w hs ms ck) {D:Nat} {o:Option (List Deferred)} (hd:w.heap[D]? = some (.deferred o)):¬ (D=X.Bx∨hidB X.M hs D):=by
 rintro (rfl|rfl|⟨h,hh,rfl⟩)
 ·have:=h1.box
  unfold Blk at this
  rw [hd] at this
  cases this
 ·have:=h1.map.map
  rw [hd] at this
  cases this
 ·obtain ⟨cur,c1,_⟩:=(h1.map.arr h hh).arr
  unfold Blk at c1
  rw [hd] at c1
  cases c1
theorem defOk_priv {X:HidP} {z:Nat} {Γ:G} {a:Act} {w w1:World} {hs:List HE} {ms:List MapEntry} {ck:Nat} (hD:DefOk z Γ a w) (h1:HidS X Γ w hs ms ck) (hE:Ext (fun b=>b=X.Bx∨hidB X.M hs b) w w1):DefOk z Γ a w1:=by
 refine ⟨Nat.le_trans hD.1 hE.size,hD.2.1,fun d hd=>?_⟩
 obtain ⟨D,d1,d2,d3,d4⟩:=hD.2.2 d hd
 exact ⟨D,d1,(hE.block D (Array.getElem?_eq_some_iff.1 d2).1 (hid_nodef h1 d2)).trans d2,d3,d4⟩
theorem hidS_put {P:Program} {X:HidP} {p:Nat} {Γ:G} {w:World} {hs:List HE} {ms:List MapEntry} {ck:Nat} {t kt e t2 ty:TypeId} {key:MK} {bytes:Nat} (hu:P.underlying t=some (.map kt e)) (hku:P.underlying kt=some (descOf X.kk)∧notW X.kk=true) (hk:key.kind=X.kk) (hT:SlT P t2 X.el X.sz bytes)
  (h1:HidS X Γ w hs ms ck) (hg:Grow p X.Γ0 X.w0 Γ w) {os:List Ob} (hm:MemOk Γ os w)
  {R:Nat → Prop} {A:Option Addr} {c:Nat} {news:List Value} {r:List D} (hr:Rd w R X.sz A 1 news) (hd:All2 (RD w Γ.I) r news) (hrl:r.length=X.sz) (hmax:∀ h ∈ hs,h.rows.length+1≤maxLen∧(h.rows.length+1) * bytes≤140737488355328) (hby:bytes≤140737488355328) :
  ∃ v' w1,(Builtin.append_ #[t2,t2] ty #[hfindv hs key,.slice A 1 c]).run P w = .ok v' w1∧Ext (hidB X.M hs) w w1∧v'.oneCell'=true∧w1.heap[X.M]? = w.heap[X.M]? ∧
   ∃ (hs':List HE) (ms':List MapEntry) (ck':Nat) (w2:World),(Instr.mapUpdate t (.map (some X.M)) key.v v').run P w1 = .ok () w2∧HidS X Γ w2 hs' ms' ck'∧hs'.map HE.pr=putR (hs.map HE.pr) key r∧Ext (hidB X.M hs) w w2∧Ext (· = X.M) w1 w2:=by
 obtain ⟨v',w1,g1,g2,g3,g4,hs',ms',ck',w2,b1,b2,b3,b4,b5,b6⟩:=hid_put (ty:=ty) (c:=c) hu hku hk hT h1.map (fun b hb=>h1.prv.imm b (.inr hb)) hm.lt hr hd hrl hmax hby
 have hBx:X.Bx < w.heap.size:=h1.prv.lt _ (.inl rfl)
 have hnB:¬ hidB X.M hs X.Bx:=by
  rintro (e|⟨h,hh,e⟩)
  ·exact h1.ne e
  ·exact h1.ne2 h hh e
 have hz:=hg.ext.size
 refine ⟨v',w1,g1,g2,g3,g4,hs',ms',ck',w2,b1,⟨b2,⟨fun b hb=>?_,fun b hb=>?_,fun b hb=>?_⟩,?_,h1.ne,fun h hh e=>?_,fun b hb=>?_⟩,b3,b5,b6⟩
 ·rcases hb with rfl|hb
  ·exact Nat.lt_of_lt_of_le hBx b5.size
  ·exact hmap_lt b2 b hb
 ·rcases hb with rfl|hb
  ·exact h1.prv.imm _ (.inl rfl)
  ·rcases b4 b hb with h|h
   ·exact h1.prv.imm _ (.inr h)
   ·exact fun hI=>by have:=hm.lt b hI;omega
 ·rcases hb with rfl|hb
  ·exact h1.prv.own _ (.inl rfl)
  ·rcases b4 b hb with h|h
   ·exact h1.prv.own _ (.inr h)
   ·rintro ⟨k,k1,k2,rfl⟩
    have:=mine_lt hm k1 k2
    omega
 ·unfold Blk
  rw [b5.block _ hBx hnB]
  exact h1.box
 ·rcases b4 h.blk (.inr ⟨h,hh,rfl⟩) with h2|h2
  ·exact hnB (e ▸ h2)
  ·omega
 ·rcases hb with rfl|hb
  ·exact h1.new _ (.inl rfl)
  ·rcases b4 b hb with h|h
   ·exact h1.new _ (.inr h)
   ·exact .inr (Nat.le_trans hz h)
def HStable (H:G → World → Prop):Prop:=∀ (p:Nat) (Γ Γ':G) (w w':World) (os:List Ob),MemOk Γ os w → Grow p Γ w Γ' w' → H Γ w → H Γ' w'
section
variable {P:Program} {N p z:Nat} {X:HidP} {ops:Array Oper} {s:S} {fuel:Nat} {listed:Array Bool} {H:G → World → Prop} {K:S → G → World → Prop}
def HA (P:Program) (N p z:Nat) (X:HidP) (ops:Array Oper) (fuel:Nat) (listed:Array Bool) (s:S) (H:G → World → Prop) (K:S → G → World → Prop):Prop :=
 ∀ (Γ:G) (a:Act) (w:World) (Q:Exit → Act → World → Prop),Stands N p Γ s a w → Grow p X.Γ0 X.w0 Γ w → DefOk z Γ a w → H Γ w →
  (∀ s' Γ' a' w',K s' Γ' w' → Stands N p Γ' s' a' w' → Grow p X.Γ0 X.w0 Γ' w' → DefOk z Γ' a' w' → Q .normal a' w') → wpAnyIn (Fw none) 0 P .any ops Q fuel listed a w
theorem ha_done (hr:Region.ready .any ops listed=[]) (h:∀ Γ w,H Γ w → K s Γ w):HA P N p z X ops fuel listed s H K:=fun Γ a w Q hA hG hD hH hK=>by
 have:=hK s Γ a w (h Γ w hH) hA hG hD
 cases fuel with
 | zero=>exact ⟨hr,this⟩
 | succ f=>exact ⟨fun _=>this,fun i hi=>by rw [hr] at hi;cases hi⟩
def HOwn (P:Program) (N p z:Nat) (X:HidP) (o:Oper) (s:S) (H:G → World → Prop) {β:Type} (H':β → G → World → Prop) (q:β → PV):Prop :=
 ∀ Γ a w,Stands N p Γ s a w → Grow p X.Γ0 X.w0 Γ w → DefOk z Γ a w → H Γ w → ∃ (x:β) (y:Value) (w':World),((execOp a.eval o).run P w = .ok (.value y) w'∨((execOp a.eval o).run P w = .ok .skip w'∧y=Go.undef))∧RP w' Γ (q x) y∧Stands N p Γ s a w'∧Grow p X.Γ0 X.w0 Γ w'∧DefOk z Γ a w'∧H' x Γ w'
def HOne (P:Program) (N p z:Nat) (X:HidP) (ops:Array Oper) (fuel:Nat) (listed:Array Bool) (s:S) (H:G → World → Prop) (K:S → G → World → Prop) (i:Nat):Prop :=
 ∃ o,ops[i]? = some o∧((HStable H∧pops P N p ops [o] s fun s'=>HA P N p z X ops fuel (listed.setIfInBounds i true) s' H K) ∨
  ∃ (β:Type) (q:β → PV) (H':β → G → World → Prop),gd ops s o.guard=some true∧dstOk N o.dst∧HOwn P N p z X o s H H' q∧∀ x,HA P N p z X ops fuel (listed.setIfInBounds i true) (s.put o.dst (q x)) (H' x) K)
theorem ha_step (l:List Nat) (hr:Region.ready .any ops listed=l) (hl:l.isEmpty=false) (h:∀ i ∈ l,HOne P N p z X ops fuel listed s H K i):HA P N p z X ops (fuel+1) listed s H K:=fun Γ a w Q hA hG hD hH hK=>by
 refine ⟨fun h0=>?_,fun i hi=>?_⟩
 ·rw [hr] at h0;subst h0;cases hl
 ·rw [hr] at hi
  obtain ⟨o,ho,h1|⟨β,q,H',hg,hd,hrun,hn⟩⟩:=h i hi
  ·obtain ⟨hst,h1⟩:=h1
   have h2:=pl_of_pops h1 Γ a w (fun e a' w'=>e = .normal∧wpAnyIn (Fw none) 0 P .any ops Q fuel (listed.setIfInBounds i true) a' w') hA (fun s' Γ' a' w' hk hA' hg hd=>⟨rfl,hk Γ' a' w' Q hA' (hG.trans hg) (hD.grow hg hd) (hst p Γ Γ' w w' _ hA.inv.m hg hH) hK⟩)
   unfold wpOpIn
   rw [ho]
   unfold wpListIn at h2
   simp only []
   split
   ·rename_i hw
    rw [if_pos hw] at h2
    exact oper_wp_to (fun a' w' h=>h.2) (fun e a' w' hne h=>hne h.1) h2
   ·rename_i hw
    rw [if_neg hw] at h2
    exact ⟨h2.1,h2.2.2⟩
  ·obtain ⟨x,y,w',k1,k2,k3,k4,k5,k6⟩:=hrun Γ a w hA hG hD hH
   unfold wpOpIn
   rw [ho]
   simp only []
   rw [if_pos (gd_ok hg hA.inv)]
   have fin:wpAnyIn (Fw none) 0 P .any ops Q fuel (listed.setIfInBounds i true) (a.put o.dst y) w':=hn x Γ _ w' Q ⟨k3.inv.put (dst_lt hd) k2,k3.le⟩ k4 (k5.grow (Grow.refl p _ _) (put_defers _ _ _)) k6 hK
   rcases k1 with k1|⟨k1,rfl⟩
   ·exact wpIn_run k1 fin
   ·exact wpIn_run k1 fin
theorem hw_drawn {rd:Option Nat} {Q:Exit → S → HRows → Prop} {id:Nat} {l:List Oper} {rows:HRows} (hmp:(P.follows .mixedOrders && plains l)=true)
  (h:∀ hs:List HE,hs.map HE.pr=rows → HA P N p z X l.toArray l.length (Array.replicate l.length false) s (fun Γ w=>∃ ms ck,HidS X Γ w hs ms ck) fun s' Γ' w'=>∃ l',Hid X Γ' w' l'∧Q .normal s' l'):HW rd P N p z X (.region id l.toArray true) Q s rows:=fun Γ a w hA hG hD hH=>by
 simp only [Bool.and_eq_true] at hmp
 obtain ⟨hs,ms,ck,h1,h2⟩:=hH
 refine wpIn_region_any hmp.1 (any_rd (by simpa using hmp.2) ?_)
 have hX:Ext No w { w with drawn:=w.drawn+1 }:=(Ext.refl No w).drew
 have hg:=ext_grow (p:=p) (Γ:=Γ) hX
 have h3:Hid X Γ { w with drawn:=w.drawn+1 } rows:=Hid.grow ⟨hs,ms,ck,h1,h2⟩ hA.inv.m hg
 obtain ⟨hs,ms,ck,h1,h2⟩:=h3
 exact h hs h2 Γ a _ _ ⟨hA.inv.same (Same.of_ext hX),hA.le⟩ (hG.trans hg) (hD.grow hg rfl) ⟨ms,ck,h1⟩ fun s' Γ' a' w' ⟨l',k1,k2⟩ hA' hG' hD'=>⟨s',Γ',l',k2,hA',hG',hD',k1⟩
theorem hstable_hidS {hs:List HE}:HStable fun Γ w=>∃ ms ck,HidS X Γ w hs ms ck:=fun p Γ Γ' w w' os hm hg ⟨ms,ck,h1⟩=>by
 obtain ⟨p1,p2⟩:=h1.prv.grow hg
 refine ⟨ms,ck,h1.map.stay (hg.stay hm) fun b hb=>p2 b (.inr hb),p1,?_,h1.ne,h1.ne2,h1.new⟩
 unfold Blk
 rw [p2 X.Bx (.inl rfl)]
 exact h1.box
end
section
variable {P:Program} {N p z:Nat} {X:HidP} {s:S} {H:G → World → Prop} {o:Oper}
theorem ho_load {t:TypeId} {x:Operand} {n:Nat} (ho:o.op = .load t x) (ha:aggOf P t=some false) (hn:szOf P t=some n) (hx:s.ev x=some (.c (.v (.pointer (some ⟨X.Bx,0,none⟩))))) (hH:∀ Γ w,H Γ w → Blk w X.Bx X.ty #[.map (some X.M)]) :
  HOwn P N p z X o s H (fun _:Unit=>H) fun _=>.c (.v (.map (some X.M))):=fun Γ a w hA hG hD hh=>by
 have hp:=S.ev_ok hx hA.inv
 have hb:=hH Γ w hh
 obtain ⟨y,h1,h2⟩:=run_loadVar_cells (P:=P) (w:=w) (t:=t) (ag:=false) (n:=n) (b:=X.Bx) (o:=0) (Γ:=Γ) (cs:=[.v (.map (some X.M))]) (xs:=[.map (some X.M)]) ha hn (fun j u hu=>by rw [hb.cell,Nat.zero_add];simpa using hu) ⟨⟨rfl,rfl⟩,trivial⟩ rfl
 refine ⟨(),y,w,.inl ?_,h1,hA,hG,hD,hh⟩
 simp [execOp,ho,Instr.loadAt,Instr.sureAddr,hp.1,h2 w (Same.refl w)]
theorem hfindv_one (key:MK):∀ hs:List HE,(hfindv hs key).oneCell'=true
 | []=>rfl
 | h :: hs=>by
  unfold hfindv
  split
  ·rfl
  ·exact hfindv_one key hs
theorem ho_lookup {t e:TypeId} {x k:Operand} {key:MK} {hs:List HE} (ho:o.op = .lookup t x k false) (hx:s.ev x=some (.c (.v (.map (some X.M))))) (hkey:keyP (s.ev k)=some key) (hmp:mpOf P t=some (X.kk,e)) (hk:key.kind=X.kk) (hz:∀ w:World,(zeroValue e).run P w = .ok (.slice none 0 0) w) :
  HOwn P N p z X o s (fun Γ w=>∃ ms ck,HidS X Γ w hs ms ck) (fun _:Unit=>fun Γ w=>∃ ms ck,HidS X Γ w hs ms ck) fun _=>.c (.v (hfindv hs key)):=fun Γ a w hA hG hD hh=>by
 have hp:=S.ev_ok hx hA.inv
 have hi:=keyP_ok hkey hA.inv
 obtain ⟨kt,hu,hku⟩:=mp_run hmp
 obtain ⟨ms,ck,h1⟩:=hh
 have hl:=hid_lookup hu hku hk hz h1.map
 refine ⟨(),hfindv hs key,w,.inl ?_,⟨rfl,hfindv_one key hs⟩,hA,hG,hD,ms,ck,h1⟩
 simp only [execOp,ho,hp.1,hi,Sem.run_bind,hl,Result.andThen_ok,Sem.run_pure]
structure HPend (P:Program) (X:HidP) (t:TypeId) (key:MK) (l':HRows) (v:Value) (Γ:G) (w:World):Prop where
 box:Blk w X.Bx X.ty #[.map (some X.M)]
 upd:∃ (B:Nat → Prop) (w2:World) (hs':List HE) (ms':List MapEntry) (ck':Nat),(Instr.mapUpdate t (.map (some X.M)) key.v v).run P w = .ok () w2∧HidS X Γ w2 hs' ms' ck'∧hs'.map HE.pr=l'∧Priv Γ w B∧Ext B w w2∧(∀ b,B b → Mine X.Γ0 b∨X.w0.heap.size≤b)∧∀ D o,w.heap[D]? = some (.deferred o) → ¬ B D
theorem ho_update {t e:TypeId} {m k x:Operand} {key:MK} {l':HRows} {v:Value} (ho:o.op = .mapUpdate t m k x) (hm:s.ev m=some (.c (.v (.map (some X.M))))) (hkey:keyP (s.ev k)=some key) (hx:s.ev x=some (.c (.v v))) :
  HOwn P N p z X o s (HPend P X t key l' v) (fun _:Unit=>fun Γ w=>Hid X Γ w l') fun _=>.undef:=fun Γ a w hA hG hD hh=>by
 have h1:=S.ev_ok hm hA.inv
 have h2:=S.ev_ok hx hA.inv
 have hi:=keyP_ok hkey hA.inv
 obtain ⟨B,w2,hs',ms',ck',k1,k2,k3,k4,k5,k6,k7⟩:=hh.upd
 refine ⟨(),Go.undef,w2,.inr ⟨?_,rfl⟩,rfl,stands_priv hA k4 k5,grow_priv hG k5 k6,?_,hs',ms',ck',k2,k3⟩
 ·simp only [execOp,ho,h1.1,h2.1,hi,Sem.run_bind,k1,Result.andThen_ok,Sem.run_pure]
 ·refine ⟨Nat.le_trans hD.1 k5.size,hD.2.1,fun d hd=>?_⟩
  obtain ⟨D,d1,d2,d3,d4⟩:=hD.2.2 d hd
  exact ⟨D,d1,(k5.block D (Array.getElem?_eq_some_iff.1 d2).1 (k7 D _ d2)).trans d2,d3,d4⟩
theorem ho_append {t t2 e:TypeId} {x zz:Operand} {key:MK} {hs:List HE} {r:List D} {by':Nat} (ho:o.op = .call { callee:=.builtin .append,args := #[x,zz],argTypes := #[t2,t2] }) (hx:s.ev x=some (.c (.v (hfindv hs key)))) (hys:srcRows s.o X.sz (s.ev zz)=some [r])
  (hel:elOf P t2=some (X.el,X.sz)) (hby:bytOf P X.el=some by') (hsz:0 < X.sz) (hzr:(zerOf P X.el).map List.length=some X.sz) (hmp:mpOf P t=some (X.kk,e)) (hk:key.kind=X.kk) (hmax:∀ h ∈ hs,h.rows.length+1≤maxLen∧(h.rows.length+1) * by'≤140737488355328) (hb:by'≤140737488355328) :
  HOwn P N p z X o s (fun Γ w=>∃ ms ck,HidS X Γ w hs ms ck) (fun v:{v:Value // v.oneCell'=true}=>HPend P X t key (putR (hs.map HE.pr) key r) v.1) fun v=>.c (.v v.1):=fun Γ a w hA hG hD hh=>by
 have hp:=S.ev_ok hx hA.inv
 obtain ⟨kt,hu,hku⟩:=mp_run hmp
 obtain ⟨ms,ck,h1⟩:=hh
 obtain ⟨hT,i,hu2,hi2⟩:=slT_of hel hby hsz hzr
 obtain ⟨hyr,A,c,news,hzv,hrd,hnx⟩:=src_ok hA.inv.m hys (fun q hq=>S.ev_ok hq hA.inv)
 obtain ⟨v',w1,g1,g2,g3,g4,hs',ms',ck',w2,b1,b2,b3,b5,b6⟩:=hidS_put (ty:=o.type) (c:=c) (t:=t) (key:=key) hu hku hk hT h1 hG hA.inv.m hrd (by simpa using hnx) (hyr r (by simp)) hmax hb
 have hBx:X.Bx < w.heap.size:=h1.prv.lt _ (.inl rfl)
 have hnB:¬ hidB X.M hs X.Bx:=by
  rintro (e|⟨h,hh,e⟩)
  ·exact h1.ne e
  ·exact h1.ne2 h hh e
 have hpr:Priv Γ w (hidB X.M hs):=h1.prv.sub fun b hb=>.inr hb
 have hM:=h1.prv.lt X.M (.inr (.inl rfl))
 refine ⟨⟨v',g3⟩,v',w1,.inl ?_,⟨rfl,g3⟩,stands_priv hA hpr g2,grow_priv hG g2 fun b hb=>h1.new b (.inr hb),defOk_priv hD h1 (g2.mono fun b hb=>.inr hb),?_,(· = X.M),w2,hs',ms',ck',b1,b2,b3,⟨fun b hb=>?_,fun b hb=>?_,fun b hb=>?_⟩,b6,fun b hb=>?_,fun D o hD2 e=>?_⟩
 ·simp only [execOp,ho,resolve,invoke,builtin,Sem.run_bind,Sem.run_pure,Result.andThen_ok,List.map_toArray,List.map_cons,List.map_nil,hp.1,hzv]
  have:[r].length=1:=rfl
  simp only [this,g1,Result.andThen_ok,Sem.run_pure]
 ·unfold Blk
  rw [g2.block _ hBx hnB]
  exact h1.box
 ·rw [hb];exact Nat.lt_of_lt_of_le hM g2.size
 ·rw [hb];exact h1.prv.imm _ (.inr (.inl rfl))
 ·rw [hb];exact h1.prv.own _ (.inr (.inl rfl))
 ·rw [hb];exact h1.new _ (.inr (.inl rfl))
 ·rw [e,g4,h1.map.map] at hD2
  cases hD2
end
section
variable {P:Program} {N p z:Nat} {X:HidP} {ops:Array Oper} {s:S} {fuel:Nat} {listed:Array Bool} {H:G → World → Prop} {K:S → G → World → Prop}
def haR (P:Program) (N p z:Nat) (X:HidP) (ops:Array Oper) (fuel:Nat) (listed:Array Bool) (s:S) (H:G → World → Prop) (K:S → G → World → Prop) (i:Nat) (o:Oper):Option Bool → Res → Prop
 | some true,.val q=>dstOk N o.dst∧HA P N p z X ops fuel (listed.setIfInBounds i true) (s.put o.dst q) H K
 | some false,_=>dstOk N o.dst∧HA P N p z X ops fuel (listed.setIfInBounds i true) (s.put o.dst .undef) H K
 | _,_=>False
def haG (P:Program) (N p z:Nat) (X:HidP) (ops:Array Oper) (fuel:Nat) (listed:Array Bool) (s:S) (H:G → World → Prop) (K:S → G → World → Prop) (i:Nat):Option Oper → Prop
 | some o=>haR P N p z X ops fuel listed s H K i o (gd ops s o.guard) (run1 P p s o.op)
 | none=>False
theorem ha_hoist (i:Nat) (hB:(Region.noSelect ops && (Region.ready .any ops listed).contains i && Region.free .any ops listed i && freeAt ops i)=true) (h:haG P N p z X ops fuel listed s H K i ops[i]?):HA P N p z X ops (fuel+1) listed s H K:=fun Γ a w Q hA hG hD hH hK=>by
 simp only [Bool.and_eq_true,List.contains_iff_mem] at hB
 obtain ⟨⟨⟨b1,b2⟩,b3⟩,b4⟩:=hB
 cases ho:ops[i]? with
 | none=>rw [ho] at h;exact h.elim
 | some o =>
  rw [ho] at h
  have hf:pfree o.op=true:=by unfold freeAt at b4;rw [ho] at b4;exact b4
  change haR P N p z X ops fuel listed s H K i o (gd ops s o.guard) (run1 P p s o.op) at h
  refine wpAny_nrm ?_
  have hQ:∀ (v:Value) c a' w',nrm Q (.panic c) (a'.put o.dst v) w' → nrm Q (.panic c) a' w':=fun v c a' w' h=>absurd h.1 (by simp)
  have hD':∀ y,DefOk z Γ (a.put o.dst y) w:=fun y=>hD.grow (Grow.refl p _ _) (put_defers _ _ _)
  unfold haR at h
  split at h
  ·rename_i q hg hr
   obtain ⟨hd,hn⟩:=h
   obtain ⟨y,h1,h2⟩:=pval_free hf (run1_val hr) hA.inv
   refine wpAnyIn_first rfl ho (Region.noSelect_spec b1) (hQ y) fuel listed a w (Region.free_spec ho b3) b2 ⟨.inl ⟨gd_ok hg hA.inv,h2⟩,fun w=>pfree_about hf w _⟩ ?_
   exact hn Γ _ w _ ⟨hA.inv.put (dst_lt hd) h1,hA.le⟩ hG (hD' y) hH fun s' Γ' a' w' hk ha hg' hd'=>⟨rfl,hK s' Γ' a' w' hk ha hg' hd'⟩
  ·rename_i r hg
   obtain ⟨hd,hn⟩:=h
   refine wpAnyIn_first rfl ho (Region.noSelect_spec b1) (hQ Go.undef) fuel listed a w (Region.free_spec ho b3) b2 ⟨.inr ⟨gd_ok hg hA.inv,rfl⟩,fun w=>pfree_about hf w _⟩ ?_
   exact hn Γ _ w _ ⟨hA.inv.put (dst_lt hd) rfl,hA.le⟩ hG (hD' _) hH fun s' Γ' a' w' hk ha hg' hd'=>⟨rfl,hK s' Γ' a' w' hk ha hg' hd'⟩
  ·exact h.elim
theorem ha_weak {s':S} (hw:Weak N p s s') (hst:HStable H) (h:HA P N p z X ops fuel listed s' H K):HA P N p z X ops fuel listed s H K:=fun Γ a w Q hA hG hD hH hK=>by
 obtain ⟨Γ1,h1,g1⟩:=hw Γ a w hA
 exact h Γ1 a w Q h1 (hG.trans g1) (hD.grow g1 rfl) (hst p Γ Γ1 w w _ hA.inv.m g1 hH) hK
theorem ha_hoistq (i:Nat) (q:PV) {o:Oper} (ho:ops[i]? = some o) (hB:(Region.noSelect ops && (Region.ready .any ops listed).contains i && Region.free .any ops listed i && freeAt ops i)=true) (hg:gd ops s o.guard=some true) (hd:dstOk N o.dst)
  (hr:∀ Γ a w,Stands N p Γ s a w → ∃ y,RP w Γ q y∧∀ w',Any w w' → (execOp a.eval o).run P w' = .ok (.value y) w') (hn:HA P N p z X ops fuel (listed.setIfInBounds i true) (s.put o.dst q) H K):HA P N p z X ops (fuel+1) listed s H K:=fun Γ a w Q hA hG hD hH hK=>by
 simp only [Bool.and_eq_true,List.contains_iff_mem] at hB
 obtain ⟨⟨⟨b1,b2⟩,b3⟩,b4⟩:=hB
 have hf:pfree o.op=true:=by unfold freeAt at b4;rw [ho] at b4;exact b4
 refine wpAny_nrm ?_
 have hQ:∀ (v:Value) c a' w',nrm Q (.panic c) (a'.put o.dst v) w' → nrm Q (.panic c) a' w':=fun v c a' w' h=>absurd h.1 (by simp)
 obtain ⟨y,h1,h2⟩:=hr Γ a w hA
 refine wpAnyIn_first rfl ho (Region.noSelect_spec b1) (hQ y) fuel listed a w (Region.free_spec ho b3) b2 ⟨.inl ⟨gd_ok hg hA.inv,fun w'=>h2 w' trivial⟩,fun w=>pfree_about hf w _⟩ ?_
 exact hn Γ _ w _ ⟨hA.inv.put (dst_lt hd) h1,hA.le⟩ hG (hD.grow (Grow.refl p _ _) (put_defers _ _ _)) hH fun s' Γ' a' w' hk ha hg' hd'=>⟨rfl,hK s' Γ' a' w' hk ha hg' hd'⟩
theorem lit_nil {x:Operand} {ad:Addr} {o:Oper} (ho:o.op = .nilCheck x) (hx:s.ev x=some (.c (.v (.pointer (some ad))))):∀ Γ a w,Stands N p Γ s a w → ∃ y,RP w Γ (.c (.v (.pointer (some ad)))) y∧∀ w',Any w w' → (execOp a.eval o).run P w' = .ok (.value y) w':=fun Γ a w hA=>by
 have hp:=S.ev_ok hx hA.inv
 refine ⟨.pointer (some ad),⟨rfl,rfl⟩,fun w' _=>?_⟩
 rw [execOp,ho];simp only [hp.1];rfl
theorem lit_fa {t:TypeId} {x:Operand} {f b g off:Nat} {ty:TypeId} {o:Oper} (ho:o.op = .fieldAddr t x f) (hf:fldOf P t f=some (off,ty)) (hx:s.ev x=some (.c (.v (.pointer (some ⟨b,g,none⟩))))) :
  ∀ Γ a w,Stands N p Γ s a w → ∃ y,RP w Γ (.c (.v (.pointer (some ⟨b,g+off,none⟩)))) y∧∀ w',Any w w' → (execOp a.eval o).run P w' = .ok (.value y) w':=fun Γ a w hA=>by
 have hp:=S.ev_ok hx hA.inv
 exact ⟨_,⟨rfl,rfl⟩,fun w' _=>by simp [execOp,ho,hp.1,run_fieldAt hf]⟩
end
def dstB (N:Nat):Option Nat → Bool
 | none=>true
 | some d=>decide (d < N)
theorem dst_of {N:Nat}:∀ {d:Option Nat},dstB N d=true → dstOk N d
 | none,_=>trivial
 | some d,h=>by simpa [dstB,dstOk] using h
section
variable {P:Program} {N p z:Nat} {X:HidP} {ops:Array Oper} {s:S} {fuel:Nat} {listed:Array Bool} {H:G → World → Prop} {K:S → G → World → Prop}
attribute [push_cast] haG haR
theorem hah (i:Nat) (h:haG P N p z X ops fuel listed s H K i ops[i]?) (hB:(Region.noSelect ops && (Region.ready .any ops listed).contains i && Region.free .any ops listed i && freeAt ops i)=true:=by decide +kernel):HA P N p z X ops (fuel+1) listed s H K:=ha_hoist i hB h
theorem hahq (i:Nat) (q:PV) {o:Oper} (ho:ops[i]? = some o) (hr:∀ Γ a w,Stands N p Γ s a w → ∃ y,RP w Γ q y∧∀ w',Any w w' → (execOp a.eval o).run P w' = .ok (.value y) w') (hn:HA P N p z X ops fuel (listed.setIfInBounds i true) (s.put o.dst q) H K)
  (hB:(Region.noSelect ops && (Region.ready .any ops listed).contains i && Region.free .any ops listed i && freeAt ops i)=true:=by decide +kernel) (hg:gd ops s o.guard=some true:=by rfl) (hd:dstB N o.dst=true:=by decide +kernel):HA P N p z X ops (fuel+1) listed s H K:=ha_hoistq i q ho hB hg (dst_of hd) hr hn
theorem has1 (a:Nat) (h1:HOne P N p z X ops fuel listed s H K a) (hr:Region.ready .any ops listed=[a]:=by decide +kernel):HA P N p z X ops (fuel+1) listed s H K :=
 ha_step [a] hr rfl fun i hi=>by rw [List.mem_singleton] at hi;subst hi;exact h1
theorem has2 (a b:Nat) (h1:HOne P N p z X ops fuel listed s H K a) (h2:HOne P N p z X ops fuel listed s H K b) (hr:Region.ready .any ops listed=[a,b]:=by decide +kernel):HA P N p z X ops (fuel+1) listed s H K :=
 ha_step [a,b] hr rfl fun i hi=>by
  rcases List.mem_cons.1 hi with rfl|hi
  ·exact h1
  ·rw [List.mem_singleton] at hi;subst hi;exact h2
theorem has3 (a b c:Nat) (h1:HOne P N p z X ops fuel listed s H K a) (h2:HOne P N p z X ops fuel listed s H K b) (h3:HOne P N p z X ops fuel listed s H K c) (hr:Region.ready .any ops listed=[a,b,c]:=by decide +kernel):HA P N p z X ops (fuel+1) listed s H K :=
 ha_step [a,b,c] hr rfl fun i hi=>by
  rcases List.mem_cons.1 hi with rfl|hi
  ·exact h1
  ·rcases List.mem_cons.1 hi with rfl|hi
   ·exact h2
   ·rw [List.mem_singleton] at hi;subst hi;exact h3
theorem hlay {i:Nat} {o:Oper} (ho:ops[i]? = some o) (hst:HStable H) (h:pops P N p ops [o] s fun s'=>HA P N p z X ops fuel (listed.setIfInBounds i true) s' H K):HOne P N p z X ops fuel listed s H K i:=⟨o,ho,.inl ⟨hst,h⟩⟩
theorem hown {i:Nat} {o:Oper} {β:Type} {q:β → PV} {H':β → G → World → Prop} (ho:ops[i]? = some o) (hr:HOwn P N p z X o s H H' q) (hn:∀ x,HA P N p z X ops fuel (listed.setIfInBounds i true) (s.put o.dst (q x)) (H' x) K) (hg:gd ops s o.guard=some true:=by rfl) (hd:dstB N o.dst=true:=by decide +kernel):HOne P N p z X ops fuel listed s H K i:=⟨o,ho,.inr ⟨β,q,H',hg,dst_of hd,hr,hn⟩⟩
theorem had (h:∀ Γ w,H Γ w → K s Γ w) (hr:Region.ready .any ops listed=[]:=by decide +kernel):HA P N p z X ops fuel listed s H K:=ha_done hr h
theorem hz_of (X:HidP) {e:TypeId} (h:zvOf P e=some (.c (.v (.slice none 0 0)))):∀ w:World,(zeroValue e).run P w = .ok (.slice none 0 0) w:=fun w=>by
 obtain ⟨z,h1,h2⟩:=zv_ok h
 have h3:=h1 w X.Γ0
 have h4:=h2 w
 rw [h3.1] at h4
 exact h4
theorem hsBox {hs:List HE}:∀ Γ w,(∃ ms ck,HidS X Γ w hs ms ck) → Blk w X.Bx X.ty #[.map (some X.M)]:=fun Γ w ⟨ms,ck,h⟩=>h.box
theorem hpBox {t:TypeId} {key:MK} {l':HRows} {v:Value}:∀ Γ w,HPend P X t key l' v Γ w → Blk w X.Bx X.ty #[.map (some X.M)]:=fun Γ w h=>h.box
end
theorem pwp_hidl {rd:Option Nat} {P:Program} {N:Nat} {Q:Exit → S → Prop} {t:List (Nat × PV)} {kk:Option KI} {ty:TypeId} (el:TypeId) (sz:Nat) (i m:Nat) {os:List Ob} {x:Code} (hom:os[m]? = some (.map kk false [])) (hob:os[m+1]? = some (.box ty [.mp m])) (hi:look t i=some (.c (.ptr (m+1) 0))) (ht:hidT t=true)
  (h:∀ (z:Nat) (X:HidP),X.ty=ty → X.kk=kk → X.el=el → X.sz=sz → HW rd P N 0 z X x (fun e s' l'=>s'.get i=some (.c (.v (.pointer (some ⟨X.Bx,0,none⟩))))∧Q e ⟨(i,.c (.ptr (s'.o.length+1) 0)) :: s'.t,s'.o++[.map kk false (rowsD sz l')]++[.box ty [.mp s'.o.length]]⟩)
   ⟨(i,.c (.v (.pointer (some ⟨X.Bx,0,none⟩)))) :: t.map anyT,[]⟩ []):PWPr rd P N 0 x Q ⟨t,os⟩:=fun z Γ a w hA hD=>by
 obtain ⟨Γ1,Bx,M,h1,h2,h3⟩:=hid_hide el sz hom hob hA hi ht
 refine wpIn_mono (h z ⟨ty,kk,el,sz,Bx,M,Γ,w⟩ rfl rfl rfl rfl Γ1 a w h1 h2 (hD.grow h2 rfl) h3) ?_
 rintro e a' w' ⟨s2,Γ2,l2,⟨q1,q2⟩,hA2,hg,hd,hh⟩
 obtain ⟨Γ3,k1,k2,k3⟩:=hid_shown hA2 hg hd hh q1
 exact ⟨_,Γ3,q2,k1,k2,k3⟩
theorem hw_to {rd:Option Nat} {P:Program} {N p z:Nat} {X:HidP} {Q:Exit → S → HRows → Prop} {s:S} {l:HRows} {c:Code} (S1:S) (l1:HRows) (h1:HW rd P N p z X c (fun e s' l'=>e = .normal∧Weak N p s' S1∧l'=l1) s l) (h2:∀ s',Weak N p s' S1 → Q .normal s' l1):HW rd P N p z X c Q s l :=
 hw_mono h1 (by rintro e s l ⟨rfl,h,rfl⟩;exact h2 s h)
section
variable {P:Program} {N p z:Nat} {X:HidP} {ops:Array Oper} {s:S} {fuel:Nat} {listed:Array Bool} {H:G → World → Prop} {K:S → G → World → Prop}
theorem haw {s':S} (h:HA P N p z X ops fuel listed s' H K) (hw:Weak N p s s') (hst:HStable H:=by exact hstable_hidS):HA P N p z X ops fuel listed s H K:=ha_weak hw hst h
theorem ha_hav {f0:Nat} {l0:Array Bool} {s0:S} (h:HA P N p z X ops fuel listed s H K → HA P N p z X ops f0 l0 s0 H K) (h2:HA P N p z X ops fuel listed s H K):HA P N p z X ops f0 l0 s0 H K:=h h2
end
end Go.Proofs.YthhfpcbpiphfiaaGreatDoor
