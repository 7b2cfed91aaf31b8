/- What the program computes, and the plain laws of it, part 26. -/
import Derived.Test.YthhfpcbpiphfiaaR10
namespace Go.Proofs.Ythhfpcbpiphfiaa
open Go.RowKit
open IntWalk renaming iteOmega → iO, toNatUp → tN
set_option linter.unusedVariables false
set_option linter.unusedSimpArgs false
structure Priv (Γ:G) (w:World) (B:Nat → Prop):Prop where
 lt:∀ b,B b → b < w.heap.size
 imm:∀ b,B b → ¬ Γ.I b
 own:∀ b,B b → ¬ Mine Γ b
theorem Priv.grow {p:Nat} {Γ Γ':G} {w w':World} {B:Nat → Prop} (h:Priv Γ w B) (hg:Grow p Γ w Γ' w'):Priv Γ' w' B∧∀ b,B b → w'.heap[b]? = w.heap[b]?:=by
 have hz:=hg.ext.size
 refine ⟨⟨fun b hb=>Nat.lt_of_lt_of_le (h.lt b hb) hz,fun b hb hi=>?_,fun b hb hm=>?_⟩,fun b hb=>hg.ext.block b (h.lt b hb) (h.own b hb)⟩
 ·rcases hg.imm b hi with h1|h1|h1
  ·exact h.imm b hb h1
  ·exact h.own b hb h1
  ·have:=h.lt b hb;omega
 ·obtain ⟨k,h1,h2,rfl⟩:=hm
  rcases hg.new k h1 h2 with h3|h3
  ·exact h.own _ hb h3
  ·have:=h.lt _ hb;omega
theorem Priv.sub {Γ:G} {w:World} {B B':Nat → Prop} (h:Priv Γ w B) (hs:∀ b,B' b → B b):Priv Γ w B':=⟨fun b hb=>h.lt b (hs b hb),fun b hb=>h.imm b (hs b hb),fun b hb=>h.own b (hs b hb)⟩
theorem MemOk.show_ {Γ:G} {os:List Ob} {w:World} (hm:MemOk Γ os w) (o:Ob) (b c:Nat) (hro:RO w (Γ.push b c) Γ.n o) (hb:Priv Γ w (· = b)):MemOk (Γ.push b c) (os++[o]) w:=by
 have hag:=push_agree Γ b c
 have hS:=Same.refl w
 have hbi:=hb.imm b rfl
 have hbo:=hb.own b rfl
 refine ⟨by simp [G.push,hm.n],fun k o' ho=>?_,fun k k' hk hk' hc hc' he=>?_,fun k hk hc=>?_,fun b' hb'=>hm.lt b' hb',hm.pins (hS.stay Γ.I)⟩
 ·rcases Nat.lt_or_ge k os.length with hlt|hge
  ·rw [List.getElem?_append_left hlt] at ho
   have hk:k < Γ.n:=by rw [hm.n];exact hlt
   exact (hm.ob k o' ho).stay (hS.stay Γ.I) hag hk fun hc=>rfl
  ·rw [List.getElem?_append_right hge] at ho
   have:k=os.length:=by
    have:=(List.getElem?_eq_some_iff.1 ho).1
    simp at this
    omega
   subst this
   simp at ho
   subst ho
   rw [← hm.n]
   exact hro
 ·have hk1:k < Γ.n+1:=hk
  have hk2:k' < Γ.n+1:=hk'
  by_cases e1:k=Γ.n<;>by_cases e2:k'=Γ.n
  ·omega
  ·subst e1
   simp only [G.push,upd_same,upd_ne _ _ e2] at he hc hc'
   exact absurd ⟨k',by omega,hc',he.symm⟩ hbo
  ·subst e2
   simp only [G.push,upd_same,upd_ne _ _ e1] at he hc hc'
   exact absurd ⟨k,by omega,hc,he⟩ hbo
  ·simp only [G.push,upd_ne _ _ e1,upd_ne _ _ e2] at he hc hc'
   exact hm.sep k k' (by omega) (by omega) hc hc' he
 ·have hk1:k < Γ.n+1:=hk
  by_cases e1:k=Γ.n
  ·subst e1
   simp only [G.push,upd_same] at hc ⊢
   exact hbi
  ·simp only [G.push,upd_ne _ _ e1] at hc ⊢
   exact hm.off k (by omega) hc
theorem grow_show {p:Nat} {Γ0 Γ:G} {w0 w:World} (hg:Grow p Γ0 w0 Γ w) (b c:Nat) (hb:Mine Γ0 b∨w0.heap.size≤b) (hp:p≤Γ.n):Grow p Γ0 w0 (Γ.push b c) w:=by
 refine ⟨hg.ext,hg.sub,fun k hk hc=>?_,hg.imm,fun k hk=>?_⟩
 ·have hk1:k < Γ.n+1:=hk
  by_cases e1:k=Γ.n
  ·subst e1
   simp only [G.push,upd_same] at hc ⊢
   exact hb
  ·simp only [G.push,upd_ne _ _ e1] at hc ⊢
   exact hg.new k (by omega) hc
 ·have h1:(Γ.push b c).β k=Γ.β k:=upd_ne _ _ (by omega)
  have h2:(Γ.push b c).cap k=Γ.cap k:=upd_ne _ _ (by omega)
  rw [h1,h2]
  exact hg.keep k hk
def G.imms (Γ:G) (B:Nat → Prop):G:=⟨Γ.n,Γ.β,Γ.cap,fun b=>Γ.I b∨B b⟩
theorem imms_stay (Γ:G) (B:Nat → Prop) (w:World):Stay w Γ.I w (Γ.imms B).I:=⟨Nat.le_refl _,fun _ _ _=>rfl,fun _ h=>.inl h⟩
theorem MemOk.imms {Γ:G} {os:List Ob} {w:World} (hm:MemOk Γ os w) {B:Nat → Prop} (hB:Priv Γ w B):MemOk (Γ.imms B) os w:=by
 have hs:=imms_stay Γ B w
 refine ⟨hm.n,fun k o ho=>?_,hm.sep,fun k hk hc hI=>?_,fun b hb=>?_,hm.pins hs⟩
 ·have hk:k < Γ.n:=by rw [hm.n];exact (List.getElem?_eq_some_iff.1 ho).1
  exact (hm.ob k o ho).stay hs (fun j hj=>⟨hj,rfl,rfl⟩) hk fun hc=>rfl
 ·rcases hI with hI|hI
  ·exact hm.off k hk hc hI
  ·exact hB.own _ hI ⟨k,hk,hc,rfl⟩
 ·rcases hb with hb|hb
  ·exact hm.lt b hb
  ·exact hB.lt b hb
theorem grow_imms {p:Nat} {Γ0 Γ:G} {w0 w:World} (hg:Grow p Γ0 w0 Γ w) {B:Nat → Prop} (hB:∀ b,B b → Mine Γ0 b∨w0.heap.size≤b):Grow p Γ0 w0 (Γ.imms B) w:=by
 refine ⟨hg.ext,fun b hb=>.inl (hg.sub b hb),hg.new,fun b hb=>?_,hg.keep⟩
 rcases hb with hb|hb
 ·exact hg.imm b hb
 ·exact .inr (hB b hb)
theorem offm_push {Γ:G} {b c D:Nat} (h:OffM Γ D) (hb:D≠b):OffM (Γ.push b c) D:=by
 refine ⟨h.1,fun k hk hc e=>?_⟩
 have hk1:k < Γ.n+1:=hk
 by_cases e1:k=Γ.n
 ·subst e1
  simp only [G.push,upd_same] at e
  exact hb e.symm
 ·simp only [G.push,upd_ne _ _ e1] at hc e
  exact h.2 k (by omega) hc e
theorem offm_imms {Γ:G} {B:Nat → Prop} {D:Nat} (h:OffM Γ D) (hb:¬ B D):OffM (Γ.imms B) D:=⟨fun hI=>hI.elim h.1 hb,h.2⟩
structure HE where
 key:MK
 blk:Nat
 cap:Nat
 rows:List (List D)
def HE.val (h:HE):Value:=.slice (some ⟨h.blk,0,none⟩) h.rows.length h.cap
structure HArr (w:World) (I:Nat → Prop) (el:TypeId) (sz:Nat) (h:HE):Prop where
 arr:∃ cur:Array Value,Blk w h.blk el cur∧cur.size=h.cap * sz∧All2 (RD w I) h.rows.flatten (cur.toList.take (h.rows.length * sz))
 le:h.rows.length≤h.cap
 max:h.cap≤maxLen
 wid:∀ r ∈ h.rows,r.length=sz
structure HMap (w:World) (I:Nat → Prop) (kk:Option KI) (M:Nat) (el:TypeId) (sz:Nat) (hs:List HE) (ms:List MapEntry) (clock:Nat):Prop where
 map:w.heap[M]? = some (.map ms.toArray clock)
 rows:All2 (fun h m=>m.key=h.key.v∧m.val=h.val) hs ms
 kind:∀ h ∈ hs,h.key.kind=kk
 nodup:(hs.map HE.key).Nodup
 born:(ms.map MapEntry.born).Pairwise (· < ·)
 clock:∀ b ∈ ms.map MapEntry.born,b < clock
 arr:∀ h ∈ hs,HArr w I el sz h
 sep:(M :: hs.map HE.blk).Nodup
def hidB (M:Nat) (hs:List HE) (b:Nat):Prop:=b=M∨∃ h ∈ hs,h.blk=b
theorem HArr.stay {w w':World} {I I':Nat → Prop} {el:TypeId} {sz:Nat} {h:HE} (hh:HArr w I el sz h) (hs:Stay w I w' I') (hb:w'.heap[h.blk]? = w.heap[h.blk]?):HArr w' I' el sz h:=by
 obtain ⟨cur,h1,h2,h3⟩:=hh.arr
 exact ⟨⟨cur,by unfold Blk at *;rw [hb];exact h1,h2,h3.mono fun _ _=>RD.stay hs _ _⟩,hh.le,hh.max,hh.wid⟩
theorem HMap.stay {w w':World} {I I':Nat → Prop} {kk:Option KI} {M:Nat} {el:TypeId} {sz:Nat} {hs:List HE} {ms:List MapEntry} {clock:Nat} (h:HMap w I kk M el sz hs ms clock) (hst:Stay w I w' I') (hb:∀ b,hidB M hs b → w'.heap[b]? = w.heap[b]?):HMap w' I' kk M el sz hs ms clock :=
 ⟨by rw [hb M (.inl rfl)];exact h.map,h.rows,h.kind,h.nodup,h.born,h.clock,fun e he=>(h.arr e he).stay hst (hb _ (.inr ⟨e,he,rfl⟩)),h.sep⟩
theorem HArr.data {w:World} {I:Nat → Prop} {el:TypeId} {sz:Nat} {h:HE} (hh:HArr w I el sz h) (hI:I h.blk):RD w I (.sl sz h.rows) h.val:=by
 obtain ⟨cur,b1,b2,b3⟩:=hh.arr
 have hle:=hh.le
 rw [rd_sl]
 refine ⟨_,h.cap,cur.toList.take (h.rows.length * sz),rfl,hle,⟨?_,fun _=>⟨_,0,rfl,hI,b1.lt,fun i u hu=>?_⟩⟩,hh.wid,b3⟩
 ·rw [List.length_take,Array.length_toList,b2]
  exact Nat.min_eq_left (Nat.mul_le_mul_right _ hle)
 ·rw [b1.cell,Nat.zero_add,← Array.getElem?_toList]
  rw [List.getElem?_take] at hu
  split at hu
  ·exact hu
  ·cases hu
def HE.row (sz:Nat) (h:HE):MK × List D:=(h.key,[.sl sz h.rows])
theorem all2_row {w:World} {I:Nat → Prop} {sz:Nat}:∀ {hs:List HE} {ms:List MapEntry},All2 (fun h m=>m.key=h.key.v∧m.val=h.val) hs ms → (∀ h ∈ hs,RD w I (.sl sz h.rows) h.val) → All2 (fun (e:MK × List D) (m:MapEntry)=>m.key=e.1.v∧RV w I false e.2 m.val) (hs.map (HE.row sz)) ms
 | [],[],_,_=>trivial
 | h :: hs,m :: ms,ha,hd=>⟨⟨ha.1.1,[m.val],⟨by rw [ha.1.2];exact hd h (by simp),trivial⟩,rfl⟩,all2_row ha.2 fun x hx=>hd x (by simp [hx])⟩
 | [],_ :: _,ha,_=>ha.elim
 | _ :: _,[],ha,_=>ha.elim
theorem HMap.rm {w:World} {I:Nat → Prop} {kk:Option KI} {M:Nat} {el:TypeId} {sz:Nat} {hs:List HE} {ms:List MapEntry} {clock:Nat} (h:HMap w I kk M el sz hs ms clock) (hI:∀ e ∈ hs,I e.blk):RM w I kk false (hs.map (HE.row sz)) ms clock:=by
 refine ⟨all2_row h.rows fun e he=>(h.arr e he).data (hI e he),fun e he=>?_,?_,h.born,h.clock⟩
 ·obtain ⟨x,hx,rfl⟩:=List.mem_map.1 he
  exact h.kind x hx
 ·have:(hs.map (HE.row sz)).map (·.1)=hs.map HE.key:=by rw [List.map_map];rfl
  rw [this]
  exact h.nodup
theorem hid_show {N p:Nat} {Γ Γ0:G} {s:S} {a:Act} {w w0:World} {kk:Option KI} {M Bx:Nat} {el ty:TypeId} {sz:Nat} {hs:List HE} {ms:List MapEntry} {clock:Nat} (hA:Stands N p Γ s a w) (hH:HMap w Γ.I kk M el sz hs ms clock)
  (hbx:Blk w Bx ty #[.map (some M)]) (hB:Priv Γ w fun b=>b=Bx∨hidB M hs b) (hne:Bx≠M) (hne2:∀ h ∈ hs,h.blk≠Bx) (hg:Grow p Γ0 w0 Γ w) (hnew:∀ b,b=Bx∨hidB M hs b → Mine Γ0 b∨w0.heap.size≤b)
  {i:Nat} (hi:s.get i=some (.c (.v (.pointer (some ⟨Bx,0,none⟩))))) :
  ∃ Γ',Stands N p Γ' ⟨(i,.c (.ptr (s.o.length+1) 0)) :: s.t,s.o++[.map kk false (hs.map (HE.row sz))]++[.box ty [.mp s.o.length]]⟩ a w∧Grow p Γ0 w0 Γ' w∧∀ D,OffM Γ D → D≠Bx → ¬ hidB M hs D → OffM Γ' D:=by
 have hn:=hA.inv.m.n
 have hMs:∀ h ∈ hs,h.blk≠M:=fun h hh e=>by
  have:=(List.nodup_cons.1 hH.sep).1
  exact this (List.mem_map.2 ⟨h,hh,e⟩)
 obtain ⟨A,hAd⟩:∃ A:Nat → Prop,A=fun b=>∃ h ∈ hs,h.blk=b:=⟨_,rfl⟩
 have hBA:Priv Γ w A:=hB.sub fun b hb=>by rw [hAd] at hb;exact .inr (.inr hb)
 have m1:=hA.inv.m.imms hBA
 have s1:=imms_stay Γ A w
 have g1:=grow_imms hg (B:=A) fun b hb=>hnew b (by rw [hAd] at hb;exact .inr (.inr hb))
 have hH1:=hH.stay s1 (fun _ _=>rfl)
 have hrm:=hH1.rm fun e he=>.inr (by rw [hAd];exact ⟨e,he,rfl⟩)
 have p1:Priv (Γ.imms A) w fun b=>b=M∨b=Bx:=⟨fun b hb=>hB.lt b (by rcases hb with rfl|rfl;exact .inr (.inl rfl);exact .inl rfl),fun b hb hI=>by
   rcases hI with hI|hI
   ·exact hB.imm b (by rcases hb with rfl|rfl;exact .inr (.inl rfl);exact .inl rfl) hI
   ·rw [hAd] at hI
    obtain ⟨h,hh,e⟩:=hI
    rcases hb with rfl|rfl
    ·exact hMs h hh e
    ·exact hne2 h hh e,
  fun b hb hm=>hB.own b (by rcases hb with rfl|rfl;exact .inr (.inl rfl);exact .inl rfl) hm⟩
 obtain ⟨Γ1,hΓ1⟩:∃ Γ1,Γ1=Γ.imms A:=⟨_,rfl⟩
 rw [← hΓ1] at m1 g1 hrm p1
 have n1:Γ1.n=s.o.length:=m1.n
 have m2:=m1.show_ (.map kk false (hs.map (HE.row sz))) M 1 ⟨by simp [G.push,upd_same],ms.toArray,clock,by simp only [G.push,upd_same];exact hH.map,by
  have e:ms.toArray.toList=ms:=by simp
  rw [e]
  exact hrm⟩ (p1.sub fun b hb=>.inl hb)
 have g2:=grow_show g1 M 1 (hnew M (.inr (.inl rfl))) (by rw [n1,← hn];exact hA.le)
 obtain ⟨Γ2,hΓ2⟩:∃ Γ2,Γ2=Γ1.push M 1:=⟨_,rfl⟩
 have n2:Γ2.n=s.o.length+1:=by rw [hΓ2];simp [G.push,n1]
 have c2:Γ2.β s.o.length=M:=by rw [hΓ2,← n1];exact upd_same _ _ _
 have p2:Priv Γ2 w (· = Bx):=⟨fun b hb=>p1.lt b (.inr hb),fun b hb hI=>p1.imm b (.inr hb) (by rw [hΓ2] at hI;exact hI),fun b hb hm=>by
  obtain ⟨k,h1,h2,h3⟩:=hm
  rw [hΓ2] at h1 h2 h3
  have hk1:k < Γ1.n+1:=h1
  by_cases e1:k=Γ1.n
  ·subst e1
   simp only [G.push,upd_same] at h3
   exact hne (hb.symm.trans h3.symm)
  ·simp only [G.push,upd_ne _ _ e1] at h2 h3
   exact p1.own b (.inr hb) ⟨k,by omega,h2,h3⟩⟩
 rw [← hΓ2] at m2 g2
 have m3:=m2.show_ (.box ty [.mp s.o.length]) Bx 1 ⟨by simp [G.push,upd_same],[.map (some M)],by simp only [G.push,upd_same];exact hbx,⟨⟨by simp [G.push,n2];omega,by
   show Value.map (some M) = .map (some ((Γ2.push Bx 1).β s.o.length))
   have:(Γ2.push Bx 1).β s.o.length=Γ2.β s.o.length:=upd_ne _ _ (by omega)
   rw [this,c2]⟩,trivial⟩,.inr (by simp [G.push,upd_same])⟩ p2
 have g3:=grow_show g2 Bx 1 (hnew Bx (.inl rfl)) (by rw [n2];have:=hA.le;omega)
 have a3:∀ j,j < Γ.n → Agree Γ (Γ2.push Bx 1) j:=fun j hj=>by
  have e1:(Γ2.push Bx 1).β j=Γ.β j:=by
   have x1:(Γ2.push Bx 1).β j=Γ2.β j:=upd_ne _ _ (by omega)
   have x2:Γ2.β j=Γ1.β j:=by rw [hΓ2];exact upd_ne _ _ (by omega)
   rw [x1,x2,hΓ1];rfl
  have e2:(Γ2.push Bx 1).cap j=Γ.cap j:=by
   have x1:(Γ2.push Bx 1).cap j=Γ2.cap j:=upd_ne _ _ (by omega)
   have x2:Γ2.cap j=Γ1.cap j:=by rw [hΓ2];exact upd_ne _ _ (by omega)
   rw [x1,x2,hΓ1];rfl
  exact ⟨by simp [G.push,n2];omega,e1,e2⟩
 have s3:Stay w Γ.I w (Γ2.push Bx 1).I:=by rw [hΓ2,hΓ1];exact s1
 have hI3:=hA.inv.heap m3 s3 a3
 refine ⟨Γ2.push Bx 1,⟨⟨hI3.size,hI3.defers,fun j q hq=>?_,m3⟩,by simp [G.push,n2];have:=hA.le;omega⟩,g3,fun D h1 h2 h3=>offm_push (by rw [hΓ2,hΓ1];exact offm_push (offm_imms h1 fun hm=>by rw [hAd] at hm;exact h3 (.inr hm)) fun e=>h3 (.inl e)) h2⟩
 simp only [S.get,look] at hq
 split at hq
 ·rename_i e
  subst e
  cases hq
  obtain ⟨h1,h2,_⟩:=hA.inv.t j _ hi
  refine ⟨h1,by simp [G.push,n2],?_⟩
  have:(Γ2.push Bx 1).β (s.o.length+1)=Bx:=by rw [← n2];exact upd_same _ _ _
  rw [this]
  exact h2
 ·exact hI3.t j q hq
theorem hfind {kk:Option KI} {key:MK} (hw:notW kk=true) (hk:key.kind=kk):∀ (hs:List HE) (ms:List MapEntry) (i:Nat),
  All2 (fun h m=>m.key=h.key.v∧m.val=h.val) hs ms → (∀ h ∈ hs,h.key.kind=kk) →
  (key ∉ hs.map HE.key∧Instr.findNow (descOf kk) key.v ms i=some none) ∨
  ∃ j h m,hs[j]? = some h∧ms[j]? = some m∧h.key=key∧m.key=key.v∧Instr.findNow (descOf kk) key.v ms i=some (some (i+j,h.val))
 | [],ms,i,h,_=>by
  rw [All2.nil_l] at h
  subst h
  exact .inl ⟨by simp,rfl⟩
 | x :: es,ms,i,h,hkk=>by
  obtain ⟨m,ms',rfl,⟨h1,h2⟩,h3⟩:=All2.cons_l.1 h
  have hs:=mk_same hw hk (hkk x (by simp))
  rw [← h1] at hs
  by_cases e:key=x.key
  ·refine .inr ⟨0,x,m,rfl,rfl,e.symm,by rw [h1,e],?_⟩
   rw [decide_eq_true e] at hs
   simp [Instr.findNow,hs,h2]
  ·have hs':Instr.sameNow (descOf kk) key.v m.key=some false:=by rw [hs];simp [e]
   rcases hfind hw hk es ms' (i+1) h3 (fun e he=>hkk e (by simp [he])) with ⟨g1,g2⟩|⟨j,h0,m0,g1,g2,g3,g4,g5⟩
   ·refine .inl ⟨by simpa [e] using g1,?_⟩
    simp [Instr.findNow,hs',g2]
   ·refine .inr ⟨j+1,h0,m0,by simpa using g1,by simpa using g2,g3,g4,?_⟩
    simp [Instr.findNow,hs',g5]
    omega
theorem harr_of {w:World} {I:Nat → Prop} {el:TypeId} {sz n:Nat} {v:Value} {xs:List Value} (h:w.ownsRow 0 el sz v n xs) (hn:0 < n) (hsz:0 < sz) (key:MK) {rows:List (List D)} (hl:rows.length=n) (hw:∀ r ∈ rows,r.length=sz) (hd:All2 (RD w I) rows.flatten xs) :
  ∃ h':HE,v=h'.val∧h'.key=key∧h'.rows=rows∧HArr w I el sz h'∧v.ownBlock=some h'.blk:=by
 obtain ⟨hxl,h2⟩:=h
 rcases h2 with ⟨rfl,rfl⟩|⟨g,cap,cur,rfl,hb,hg,hnc,hc,hs,hx⟩
 ·omega
 ·subst hl
  refine ⟨⟨key,g,cap,rows⟩,rfl,rfl,rfl,⟨⟨cur,hg,hs,?_⟩,hnc,hc,hw⟩,rfl⟩
  show All2 (RD w I) rows.flatten (cur.toList.take (rows.length * sz))
  rw [hx]
  exact hd
theorem hid_append {P:Program} {w:World} {I:Nat → Prop} {t ty el:TypeId} {sz bytes:Nat} (hT:SlT P t el sz bytes) {h:HE} (hh:HArr w I el sz h) {R:Nat → Prop} {A:Option Addr} {c:Nat} {news:List Value} {r:List D} (hr:Rd w R sz A 1 news)
  (hd:All2 (RD w I) r news) (hrl:r.length=sz) (hI:¬ I h.blk) (hlt:∀ b,I b → b < w.heap.size) (hmax:h.rows.length+1≤maxLen) (hby:(h.rows.length+1) * bytes≤140737488355328) :
  ∃ (h':HE) (w':World),(Builtin.append_ #[t,t] ty #[h.val,.slice A 1 c]).run P w = .ok h'.val w'∧h'.key=h.key∧h'.rows=h.rows++[r]∧HArr w' I el sz h'∧Ext (fun k=>k=h.blk) w w'∧(h'.blk=h.blk∨h'.blk=w.heap.size):=by
 obtain ⟨cur,b1,b2,b3⟩:=hh.arr
 have ho:w.ownsRow 0 el sz h.val h.rows.length (cur.toList.take (h.rows.length * sz)):=own_blk b1 (Nat.zero_le _) b2 hh.le hh.max
 have h1:∀ u ∈ news,u.oneCell'=true:=fun u hu=>by
  obtain ⟨i,hi⟩:=List.mem_iff_getElem?.1 hu
  have hl:=hd.length
  obtain ⟨d,hd1,hd2⟩:∃ d,r[i]? = some d∧RD w I d u:=by
   have hil:i < r.length:=by rw [hl];exact (List.getElem?_eq_some_iff.1 hi).1
   obtain ⟨u',hu',hR⟩:=hd.get i r[i] (List.getElem?_eq_getElem hil)
   rw [hi] at hu'
   cases hu'
   exact ⟨r[i],List.getElem?_eq_getElem hil,hR⟩
  exact hd2.one
 obtain ⟨v',w',g1,g2,g3,g4⟩:=run_append_rd w 0 t ty el sz bytes hT h.val h.rows.length _ ho R A 1 c news hr h1 hmax hby (Nat.zero_le _)
 have hE:Ext (fun k=>k=h.blk) w w':=g3.mono fun k hk=>by simpa [HE.val,Value.ownBlock] using hk.symm
 have hst:Stay w I w' I:=⟨hE.size,fun b hb hl=>hE.block b hl fun e=>hI (e ▸ hb),fun _ h=>h⟩
 obtain ⟨h',e1,e2,e3,e4,e5⟩:=harr_of (I:=I) g2 (by omega) hT.pos h.key (rows:=h.rows++[r]) (by simp) (fun x hx=>by
  rcases List.mem_append.1 hx with hx|hx
  ·exact hh.wid x hx
  ·rw [List.mem_singleton.1 hx];exact hrl) (by
  rw [List.flatten_append]
  simp only [List.flatten_cons,List.flatten_nil,List.append_nil]
  exact (b3.append hd).mono fun _ _=>RD.stay hst _ _)
 subst e1
 refine ⟨h',w',g1,e2,e3,e4,hE,?_⟩
 rcases g4 with g4|g4
 ·rw [e5] at g4
  have:some h'.blk=some h.blk:=by rw [g4];rfl
  exact .inl (Option.some.inj this)
 ·rw [e5] at g4
  exact .inr (Option.some.inj g4)
theorem hid_append0 {P:Program} {w:World} {I:Nat → Prop} {t ty el:TypeId} {sz bytes:Nat} (hT:SlT P t el sz bytes) (key:MK) {R:Nat → Prop} {A:Option Addr} {c:Nat} {news:List Value} {r:List D} (hr:Rd w R sz A 1 news)
  (hd:All2 (RD w I) r news) (hrl:r.length=sz) (hlt:∀ b,I b → b < w.heap.size) (hby:bytes≤140737488355328) :
  ∃ (h':HE) (w':World),(Builtin.append_ #[t,t] ty #[.slice none 0 0,.slice A 1 c]).run P w = .ok h'.val w'∧h'.key=key∧h'.rows=[r]∧HArr w' I el sz h'∧Ext No w w'∧h'.blk=w.heap.size:=by
 have h1:∀ u ∈ news,u.oneCell'=true:=fun u hu=>by
  obtain ⟨i,hi⟩:=List.mem_iff_getElem?.1 hu
  have hl:=hd.length
  have hil:i < r.length:=by rw [hl];exact (List.getElem?_eq_some_iff.1 hi).1
  obtain ⟨u',hu',hR⟩:=hd.get i r[i] (List.getElem?_eq_getElem hil)
  rw [hi] at hu'
  cases hu'
  exact hR.one
 obtain ⟨v',w',g1,g2,g3,g4⟩:=run_append_rd w 0 t ty el sz bytes hT (.slice none 0 0) 0 [] (own_nil w 0 el sz) R A 1 c news hr h1 (by simp [maxLen]) (by simpa using hby) (Nat.zero_le _)
 have hE:Ext No w w':=g3.mono fun k hk=>by simp [Value.ownBlock] at hk
 have hst:Stay w I w' I:=⟨hE.size,fun b hb hl=>hE.block b hl fun e=>e,fun _ h=>h⟩
 obtain ⟨h',e1,e2,e3,e4,e5⟩:=harr_of (I:=I) g2 (by omega) hT.pos key (rows:=[r]) (by simp) (fun x hx=>by rw [List.mem_singleton.1 hx];exact hrl) (by
  simp only [List.flatten_cons,List.flatten_nil,List.append_nil,List.nil_append]
  exact hd.mono fun _ _=>RD.stay hst _ _)
 subst e1
 refine ⟨h',w',g1,e2,e3,e4,hE,?_⟩
 rcases g4 with g4|g4
 ·rw [e5] at g4;simp [Value.ownBlock] at g4
 ·rw [e5] at g4
  exact Option.some.inj g4
theorem hmap_lt {w:World} {I:Nat → Prop} {kk:Option KI} {M:Nat} {el:TypeId} {sz:Nat} {hs:List HE} {ms:List MapEntry} {clock:Nat} (h:HMap w I kk M el sz hs ms clock):∀ b,hidB M hs b → b < w.heap.size:=by
 rintro b (rfl|⟨e,he,rfl⟩)
 ·exact (Array.getElem?_eq_some_iff.1 h.map).1
 ·obtain ⟨cur,h1,_⟩:=(h.arr e he).arr
  exact h1.lt
theorem nodup_ix {α:Type} {l:List α}:l.Nodup ↔ ∀ i j,i < j → j < l.length → l[i]?≠l[j]?:=by
 unfold List.Nodup
 rw [List.pairwise_iff_getElem]
 constructor
 ·intro h i j hij hj e
  have hi:i < l.length:=by omega
  rw [List.getElem?_eq_getElem hi,List.getElem?_eq_getElem hj] at e
  exact h i j hi hj hij (Option.some.inj e)
 ·intro h i j hi hj hij e
  exact h i j hij hj (by rw [List.getElem?_eq_getElem hi,List.getElem?_eq_getElem hj,e])
theorem stay_trans {w w1 w2:World} {I I1 I2:Nat → Prop} (h:Stay w I w1 I1) (h':Stay w1 I1 w2 I2):Stay w I w2 I2 :=
 ⟨Nat.le_trans h.size h'.size,fun b hb hl=>(h'.block b (h.sub b hb) (Nat.lt_of_lt_of_le hl h.size)).trans (h.block b hb hl),fun b hb=>h'.sub b (h.sub b hb)⟩
theorem hid_store_new {P:Program} {w w1:World} {I:Nat → Prop} {kk:Option KI} {M:Nat} {el:TypeId} {sz:Nat} {hs:List HE} {ms:List MapEntry} {clock:Nat} {t kt e:TypeId} (hu:P.underlying t=some (.map kt e)) (hku:P.underlying kt=some (descOf kk)∧notW kk=true) {key:MK} (hk:key.kind=kk)
  (hH:HMap w I kk M el sz hs ms clock) (hIM:¬ I M) (hE:Ext No w w1) (habs:key ∉ hs.map HE.key) (hfn:Instr.findNow (descOf kk) key.v ms 0=some none) {h':HE} (h1:h'.key=key) (h2:h'.blk=w.heap.size) (h3:HArr w1 I el sz h') :
  ∃ (ms':List MapEntry) (ck':Nat) (w2:World),(Instr.mapUpdate t (.map (some M)) key.v h'.val).run P w1 = .ok () w2∧HMap w2 I kk M el sz (hs++[h']) ms' ck'∧Ext (· = M) w1 w2:=by
 have hlt:=hmap_lt hH
 have hst:Stay w I w1 I:=⟨hE.size,fun b hb hl=>hE.block b hl fun e=>e,fun _ h=>h⟩
 have hH1:=hH.stay hst fun b hb=>hE.block b (hlt b hb) fun e=>e
 have hb:=hH1.map
 have hfn':Instr.findNow (descOf kk) key.v ms.toArray.toList 0=some none:=by simpa using hfn
 obtain ⟨am,ham⟩:∃ am:Array MapEntry,am=ms.toArray:=⟨_,rfl⟩
 have haml:am.toList=ms:=by rw [ham]
 rw [← ham] at hb hfn'
 have hE2:Ext (· = M) w1 { w1 with heap:=w1.heap.setIfInBounds M (.map (am.push { key:=key.v,val:=h'.val,born:=clock }) (clock+1)) }:=ext_setObj hb
 have hst2:Stay w1 I { w1 with heap:=w1.heap.setIfInBounds M (.map (am.push { key:=key.v,val:=h'.val,born:=clock }) (clock+1)) } I:=⟨hE2.size,fun b hb' hl=>hE2.block b hl fun e=>hIM (e ▸ hb'),fun _ h=>h⟩
 have hMn:=List.nodup_cons.1 hH1.sep
 have hblk:∀ x ∈ hs,x.blk≠M:=fun x hx e=>hMn.1 (List.mem_map.2 ⟨x,hx,e⟩)
 have hM':h'.blk≠M:=by have:=hlt M (.inl rfl);omega
 refine ⟨ms++[{ key:=key.v,val:=h'.val,born:=clock }],clock+1,_,?_,⟨?_,hH1.rows.append ⟨⟨by rw [h1],rfl⟩,trivial⟩,fun x hx=>?_,?_,?_,fun b hb'=>?_,fun x hx=>?_,?_⟩,hE2⟩
 ·simp [Instr.mapUpdate,run_underlying hu,MapKept.run_getObj_map hb,MapKept.run_checkKey hku.1 (mk_isKey hku.2 hk),MapKept.run_findKey hku.1 hfn',MapKept.run_setObj_map _ hb]
 ·have:=(MapKept.heap_set (o':=.map (am.push { key:=key.v,val:=h'.val,born:=clock }) (clock+1)) hb).1
  rw [this]
  have e:am.push { key:=key.v,val:=h'.val,born:=clock }=(ms++[({ key:=key.v,val:=h'.val,born:=clock }:MapEntry)]).toArray:=by
   apply Array.ext'
   rw [Array.toList_push,haml]
  rw [e]
 ·rcases List.mem_append.1 hx with hx|hx
  ·exact hH1.kind x hx
  ·rw [List.mem_singleton.1 hx,h1];exact hk
 ·rw [List.map_append,List.nodup_append]
  refine ⟨hH1.nodup,by simp,?_⟩
  intro a ha b hb2 hab
  simp at hb2
  subst hb2
  exact habs (by rw [← h1,← hab];exact ha)
 ·rw [List.map_append,List.pairwise_append]
  refine ⟨hH1.born,by simp,fun a ha b hb2=>?_⟩
  simp at hb2
  subst hb2
  exact hH1.clock a ha
 ·rw [List.map_append] at hb'
  rcases List.mem_append.1 hb' with hb'|hb'
  ·exact Nat.lt_succ_of_lt (hH1.clock b hb')
  ·simp at hb';subst hb';exact Nat.lt_succ_self _
 ·rcases List.mem_append.1 hx with hx|hx
  ·obtain ⟨cur,c1,_⟩:=(hH1.arr x hx).arr
   exact (hH1.arr x hx).stay hst2 (hE2.block _ c1.lt (hblk x hx))
  ·rw [List.mem_singleton.1 hx]
   obtain ⟨cur,c1,_⟩:=h3.arr
   exact h3.stay hst2 (hE2.block _ c1.lt hM')
 ·rw [List.map_append,List.nodup_cons]
  refine ⟨fun hm=>?_,?_⟩
  ·rcases List.mem_append.1 hm with hm|hm
   ·exact hMn.1 hm
   ·simp at hm;exact hM' hm.symm
  ·rw [List.nodup_append]
   refine ⟨hMn.2,by simp,?_⟩
   intro a ha b hb2 hab
   simp at hb2
   subst hb2
   obtain ⟨x,hx,rfl⟩:=List.mem_map.1 ha
   have:=hlt x.blk (.inr ⟨x,hx,rfl⟩)
   omega
theorem hid_store {P:Program} {w w1:World} {I:Nat → Prop} {kk:Option KI} {M:Nat} {el:TypeId} {sz:Nat} {hs:List HE} {ms:List MapEntry} {clock:Nat} {t kt e:TypeId} (hu:P.underlying t=some (.map kt e)) (hku:P.underlying kt=some (descOf kk)∧notW kk=true) {key:MK} (hk:key.kind=kk)
  (hH:HMap w I kk M el sz hs ms clock) (hIM:¬ I M) {j:Nat} {h h':HE} {m0:MapEntry} (hj:hs[j]? = some h) (hmj:ms[j]? = some m0) (hhk:h.key=key) (hmk:m0.key=key.v) (hIh:¬ I h.blk) (hE:Ext (fun k=>k=h.blk) w w1) (hfn:Instr.findNow (descOf kk) key.v ms 0=some (some (j,h.val)))
  (h1:h'.key=key) (h2:h'.blk=h.blk∨h'.blk=w.heap.size) (h3:HArr w1 I el sz h') :
  ∃ (ms':List MapEntry) (w2:World),(Instr.mapUpdate t (.map (some M)) key.v h'.val).run P w1 = .ok () w2∧HMap w2 I kk M el sz (hs.set j h') ms' clock∧Ext (· = M) w1 w2:=by
 have hlt:=hmap_lt hH
 have hhm:h ∈ hs:=List.mem_of_getElem? hj
 have hMn:=List.nodup_cons.1 hH.sep
 have hblk:∀ x ∈ hs,x.blk≠M:=fun x hx e=>hMn.1 (List.mem_map.2 ⟨x,hx,e⟩)
 have hst:Stay w I w1 I:=⟨hE.size,fun b hb hl=>hE.block b hl fun e=>hIh (e ▸ hb),fun _ h=>h⟩
 have hb:w1.heap[M]? = some (.map ms.toArray clock):=by rw [hE.block M (hlt M (.inl rfl)) fun e=>hblk h hhm e.symm];exact hH.map
 have hfn':Instr.findNow (descOf kk) key.v ms.toArray.toList 0=some (some (j,h.val)):=by simpa using hfn
 have hja:ms.toArray[j]? = some m0:=by simpa using hmj
 obtain ⟨am,ham⟩:∃ am:Array MapEntry,am=ms.toArray:=⟨_,rfl⟩
 have haml:am.toList=ms:=by rw [ham]
 rw [← ham] at hb hfn' hja
 obtain ⟨am',ham'⟩:∃ am',am'=am.modify j fun e=>{ e with key:=key.v,val:=h'.val }:=⟨_,rfl⟩
 have hml:am'.toList=ms.set j { m0 with key:=key.v,val:=h'.val }:=by
  rw [ham',Array.toList_modify,haml,List.modify_eq_set,hmj]
  rfl
 have hE2:Ext (· = M) w1 { w1 with heap:=w1.heap.setIfInBounds M (.map am' clock) }:=ext_setObj hb
 have hst2:Stay w1 I { w1 with heap:=w1.heap.setIfInBounds M (.map am' clock) } I:=⟨hE2.size,fun b hb' hl=>hE2.block b hl fun e=>hIM (e ▸ hb'),fun _ h=>h⟩
 have hM':h'.blk≠M:=by
  rcases h2 with h2|h2
  ·rw [h2];exact hblk h hhm
  ·have:=hlt M (.inl rfl);omega
 have hbs:(ms.set j { m0 with key:=key.v,val:=h'.val }).map MapEntry.born=ms.map MapEntry.born:=by
  rw [List.map_set]
  exact list_set_self (by rw [List.getElem?_map,hmj];rfl)
 have hjl:j < hs.length:=(List.getElem?_eq_some_iff.1 hj).1
 have hoth:∀ i x,hs[i]? = some x → i≠j → x.blk≠h.blk:=fun i x hx hij e=>by
  have hnd:=hMn.2
  rw [nodup_ix] at hnd
  have e1:(hs.map HE.blk)[i]? = some x.blk:=by rw [List.getElem?_map,hx];rfl
  have e2:(hs.map HE.blk)[j]? = some h.blk:=by rw [List.getElem?_map,hj];rfl
  have il:i < (hs.map HE.blk).length:=by rw [List.length_map];exact (List.getElem?_eq_some_iff.1 hx).1
  have jl:j < (hs.map HE.blk).length:=by rw [List.length_map];exact hjl
  rcases Nat.lt_or_gt_of_ne hij with hl|hl
  ·exact hnd i j hl jl (by rw [e1,e2,e])
  ·exact hnd j i hl il (by rw [e1,e2,e])
 refine ⟨ms.set j { m0 with key:=key.v,val:=h'.val },_,?_,⟨?_,hH.rows.set_ j ⟨by rw [h1],rfl⟩,fun x hx=>?_,?_,by rw [hbs];exact hH.born,by rw [hbs];exact hH.clock,fun x hx=>?_,?_⟩,hE2⟩
 ·rw [ham']
  simp [Instr.mapUpdate,run_underlying hu,MapKept.run_getObj_map hb,MapKept.run_checkKey hku.1 (mk_isKey hku.2 hk),MapKept.run_findKey hku.1 hfn',hja,hmk,MapKept.run_keyThatStays (mk_isKey hku.2 hk),MapKept.run_setObj_map _ hb]
 ·have:=(MapKept.heap_set (o':=.map am' clock) hb).1
  rw [this,← hml]
 ·rcases List.mem_or_eq_of_mem_set hx with hx|rfl
  ·exact hH.kind x hx
  ·rw [h1];exact hk
 ·rw [List.map_set,list_set_self (by rw [List.getElem?_map,hj,← hhk.trans h1.symm];rfl)]
  exact hH.nodup
 ·obtain ⟨i,hi⟩:=List.mem_iff_getElem?.1 hx
  by_cases hij:i=j
  ·subst hij
   rw [List.getElem?_set_self hjl] at hi
   cases hi
   obtain ⟨cur,c1,_⟩:=h3.arr
   exact h3.stay hst2 (hE2.block _ c1.lt hM')
  ·rw [List.getElem?_set_ne fun e=>hij e.symm] at hi
   have hxm:x ∈ hs:=List.mem_of_getElem? hi
   have hxl:=hlt x.blk (.inr ⟨x,hxm,rfl⟩)
   refine (hH.arr x hxm).stay (stay_trans hst hst2) ?_
   rw [hE2.block _ (Nat.lt_of_lt_of_le hxl hE.size) (hblk x hxm),hE.block _ hxl (hoth i x hi hij)]
 ·rw [List.nodup_cons,List.map_set]
  have hbn:h'.blk=h.blk∨h'.blk ∉ hs.map HE.blk:=by
   rcases h2 with h2|h2
   ·exact .inl h2
   ·refine .inr fun hm=>?_
    obtain ⟨x,hx,e⟩:=List.mem_map.1 hm
    have:=hlt x.blk (.inr ⟨x,hx,rfl⟩)
    omega
  have hself:h'.blk=h.blk → (hs.map HE.blk).set j h'.blk=hs.map HE.blk:=fun e=>list_set_self (by rw [List.getElem?_map,hj,e];rfl)
  refine ⟨fun hm=>?_,?_⟩
  ·rcases List.mem_or_eq_of_mem_set hm with hm|hm
   ·exact hMn.1 hm
   ·exact hM' hm.symm
  ·rcases hbn with hbn|hbn
   ·rw [hself hbn];exact hMn.2
   ·rw [nodup_ix]
    intro i k hik hkl he
    rw [List.length_set] at hkl
    have hnd:=hMn.2
    rw [nodup_ix] at hnd
    by_cases e1:j=i
    ·subst e1
     rw [List.getElem?_set_self (by omega),List.getElem?_set_ne (by omega)] at he
     exact hbn (List.mem_of_getElem? he.symm)
    ·by_cases e2:j=k
     ·subst e2
      rw [List.getElem?_set_self (by omega),List.getElem?_set_ne (by omega)] at he
      exact hbn (List.mem_of_getElem? he)
     ·rw [List.getElem?_set_ne e1,List.getElem?_set_ne e2] at he
      exact hnd i k hik hkl he
def HE.pr (h:HE):MK × List (List D):=(h.key,h.rows)
def hfindv:List HE → MK → Value
 | [],_=>.slice none 0 0
 | h :: l,k=>if h.key=k then h.val else hfindv l k
def putR:List (MK × List (List D)) → MK → List D → List (MK × List (List D))
 | [],k,r=>[(k,[r])]
 | (a,x) :: l,k,r=>if a=k then (a,x++[r]) :: l else (a,x) :: putR l k r
theorem hfind2 {key:MK}:∀ (hs:List HE),(key ∉ hs.map HE.key∧hfindv hs key = .slice none 0 0∧∀ r,putR (hs.map HE.pr) key r=hs.map HE.pr++[(key,[r])]) ∨
  ∃ j h,hs[j]? = some h∧h.key=key∧(∀ i x,i < j → hs[i]? = some x → x.key≠key)∧hfindv hs key=h.val∧∀ r,putR (hs.map HE.pr) key r=(hs.map HE.pr).set j (key,h.rows++[r])
 | []=>.inl ⟨by simp,rfl,fun _=>rfl⟩
 | x :: hs=>by
  by_cases e:x.key=key
  ·exact .inr ⟨0,x,rfl,e,fun i y hi=>by omega,by simp [hfindv,e],fun r=>by simp [putR,HE.pr,e]⟩
  ·rcases hfind2 hs with ⟨g1,g2,g3⟩|⟨j,h,g1,g2,g3,g4,g5⟩
   ·refine .inl ⟨?_,by rw [hfindv,if_neg e];exact g2,fun r=>by simp [putR,HE.pr,e];exact g3 r⟩
    rw [List.map_cons,List.mem_cons,not_or]
    exact ⟨fun h=>e h.symm,g1⟩
   ·refine .inr ⟨j+1,h,by simpa using g1,g2,fun i y hi hy=>?_,by rw [hfindv,if_neg e];exact g4,fun r=>by simp [putR,HE.pr,e];exact g5 r⟩
    cases i with
    | zero=>simp at hy;subst hy;exact e
    | succ i=>exact g3 i y (by omega) (by simpa using hy)
section
variable {P:Program} {w:World} {I:Nat → Prop} {kk:Option KI} {M:Nat} {el:TypeId} {sz:Nat} {hs:List HE} {ms:List MapEntry} {clock:Nat} {t kt e:TypeId} {key:MK}
theorem hfind3 (hw:notW kk=true) (hk:key.kind=kk) (hH:HMap w I kk M el sz hs ms clock) :
  (key ∉ hs.map HE.key∧hfindv hs key = .slice none 0 0∧(∀ r,putR (hs.map HE.pr) key r=hs.map HE.pr++[(key,[r])])∧Instr.findNow (descOf kk) key.v ms 0=some none) ∨
  ∃ j h m,hs[j]? = some h∧ms[j]? = some m∧h.key=key∧m.key=key.v∧hfindv hs key=h.val∧(∀ r,putR (hs.map HE.pr) key r=(hs.map HE.pr).set j (key,h.rows++[r]))∧Instr.findNow (descOf kk) key.v ms 0=some (some (j,h.val)):=by
 rcases hfind hw hk hs ms 0 hH.rows hH.kind with ⟨a1,a2⟩|⟨j,h,m,a1,a2,a3,a4,a5⟩
 ·rcases hfind2 (key:=key) hs with ⟨g1,g2,g3⟩|⟨j,h,g1,g2,_⟩
  ·exact .inl ⟨a1,g2,g3,a2⟩
  ·exact absurd (List.mem_map.2 ⟨h,List.mem_of_getElem? g1,g2⟩) a1
 ·rcases hfind2 (key:=key) hs with ⟨g1,g2,g3⟩|⟨j',h',g1,g2,g3,g4,g5⟩
  ·exact absurd (List.mem_map.2 ⟨h,List.mem_of_getElem? a1,a3⟩) g1
  ·have hnd:=hH.nodup
   rw [nodup_ix] at hnd
   have e1:(hs.map HE.key)[j]? = some key:=by rw [List.getElem?_map,a1,← a3];rfl
   have e2:(hs.map HE.key)[j']? = some key:=by rw [List.getElem?_map,g1,← g2];rfl
   have l1:=(List.getElem?_eq_some_iff.1 e1).1
   have l2:=(List.getElem?_eq_some_iff.1 e2).1
   have:j=j':=by
    rcases Nat.lt_trichotomy j j' with h1|h1|h1
    ·exact absurd (e1.trans e2.symm) (hnd j j' h1 l2)
    ·exact h1
    ·exact absurd (e2.trans e1.symm) (hnd j' j h1 l1)
   subst this
   rw [a1] at g1
   cases g1
   exact .inr ⟨j,h,m,a1,a2,a3,a4,g4,g5,by simpa using a5⟩
theorem hid_lookup (hu:P.underlying t=some (.map kt e)) (hku:P.underlying kt=some (descOf kk)∧notW kk=true) (hk:key.kind=kk) (hz:∀ w:World,(zeroValue e).run P w = .ok (.slice none 0 0) w) (hH:HMap w I kk M el sz hs ms clock) :
  (Instr.lookup t (.map (some M)) key.v false).run P w = .ok (hfindv hs key) w:=by
 have hb:=hH.map
 rcases hfind3 hku.2 hk hH with ⟨g1,g2,g3,g4⟩|⟨j,h,m,g1,g2,g3,g4,g5,g6,g7⟩
 ·have g4':Instr.findNow (descOf kk) key.v ms.toArray.toList 0=some none:=by simpa using g4
  rw [g2]
  simp [Instr.lookup,run_underlying hu,MapKept.run_getObj_map hb,MapKept.run_checkKey hku.1 (mk_isKey hku.2 hk),MapKept.run_findKey hku.1 g4',hz]
 ·have g7':Instr.findNow (descOf kk) key.v ms.toArray.toList 0=some (some (j,h.val)):=by simpa using g7
  rw [g5]
  simp [Instr.lookup,run_underlying hu,MapKept.run_getObj_map hb,MapKept.run_checkKey hku.1 (mk_isKey hku.2 hk),MapKept.run_findKey hku.1 g7']
theorem hid_put {t2 ty:TypeId} {bytes:Nat} (hu:P.underlying t=some (.map kt e)) (hku:P.underlying kt=some (descOf kk)∧notW kk=true) (hk:key.kind=kk) (hT:SlT P t2 el sz bytes) (hH:HMap w I kk M el sz hs ms clock) (hI:∀ b,hidB M hs b → ¬ I b) (hlt:∀ b,I b → b < w.heap.size)
  {R:Nat → Prop} {A:Option Addr} {c:Nat} {news:List Value} {r:List D} (hr:Rd w R sz A 1 news) (hd:All2 (RD w I) r news) (hrl:r.length=sz) (hmax:∀ h ∈ hs,h.rows.length+1≤maxLen∧(h.rows.length+1) * bytes≤140737488355328) (hby:bytes≤140737488355328) :
  ∃ v' w1,(Builtin.append_ #[t2,t2] ty #[hfindv hs key,.slice A 1 c]).run P w = .ok v' w1∧Ext (hidB M hs) w w1∧v'.oneCell'=true∧w1.heap[M]? = w.heap[M]? ∧
   ∃ (hs':List HE) (ms':List MapEntry) (ck':Nat) (w2:World),(Instr.mapUpdate t (.map (some M)) key.v v').run P w1 = .ok () w2∧HMap w2 I kk M el sz hs' ms' ck'∧hs'.map HE.pr=putR (hs.map HE.pr) key r∧(∀ b,hidB M hs' b → hidB M hs b∨w.heap.size≤b)∧Ext (hidB M hs) w w2∧Ext (· = M) w1 w2:=by
 have hMl:=hmap_lt hH M (.inl rfl)
 have hIM:=hI M (.inl rfl)
 rcases hfind3 hku.2 hk hH with ⟨g1,g2,g3,g4⟩|⟨j,h,m,g1,g2,g3,g4,g5,g6,g7⟩
 ·rw [g2]
  obtain ⟨h',w1,a1,a2,a3,a4,a5,a6⟩:=hid_append0 (ty:=ty) (c:=c) hT key hr hd hrl hlt hby
  obtain ⟨ms',ck',w2,b1,b2,b3⟩:=hid_store_new hu hku hk hH hIM a5 g1 g4 a2 a6 a4
  refine ⟨h'.val,w1,a1,a5.mono fun _ h=>h.elim,rfl,a5.block M hMl fun e=>e,_,ms',ck',w2,b1,b2,?_,?_,?_,b3⟩
  ·rw [g3,List.map_append]
   simp [HE.pr,a2,a3]
  ·rintro b (rfl|⟨x,hx,rfl⟩)
   ·exact .inl (.inl rfl)
   ·rcases List.mem_append.1 hx with hx|hx
    ·exact .inl (.inr ⟨x,hx,rfl⟩)
    ·rw [List.mem_singleton.1 hx];exact .inr (Nat.le_of_eq a6.symm)
  ·exact (a5.mono fun _ h=>h.elim).trans (b3.mono fun b hb=>.inl hb)
 ·rw [g5]
  have hm:h ∈ hs:=List.mem_of_getElem? g1
  have hIh:=hI h.blk (.inr ⟨h,hm,rfl⟩)
  obtain ⟨h',w1,a1,a2,a3,a4,a5,a6⟩:=hid_append (ty:=ty) (c:=c) hT (hH.arr h hm) hr hd hrl hIh hlt (hmax h hm).1 (hmax h hm).2
  obtain ⟨ms',w2,b1,b2,b3⟩:=hid_store hu hku hk hH hIM g1 g2 g3 g4 hIh a5 g7 (a2.trans g3) a6 a4
  refine ⟨h'.val,w1,a1,a5.mono fun b hb=>.inr ⟨h,hm,hb.symm⟩,rfl,a5.block M hMl fun e=>(List.nodup_cons.1 hH.sep).1 (List.mem_map.2 ⟨h,hm,e.symm⟩),_,ms',clock,w2,b1,b2,?_,?_,?_,b3⟩
  ·rw [g6,List.map_set]
   simp only [HE.pr,a2,a3,g3]
  ·rintro b (rfl|⟨x,hx,rfl⟩)
   ·exact .inl (.inl rfl)
   ·rcases List.mem_or_eq_of_mem_set hx with hx|rfl
    ·exact .inl (.inr ⟨x,hx,rfl⟩)
    ·rcases a6 with a6|a6
     ·exact .inl (.inr ⟨h,hm,a6.symm⟩)
     ·exact .inr (Nat.le_of_eq a6.symm)
  ·exact (a5.mono fun b hb=>.inr ⟨h,hm,hb.symm⟩).trans (b3.mono fun b hb=>.inl hb)
end
end Go.Proofs.Ythhfpcbpiphfiaa
