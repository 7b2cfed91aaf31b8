/- What the program computes, and the plain laws of it, part 23. -/
import Derived.Test.YtmbbkfffcflfcaaGreatDoorT22
namespace Go.Proofs.YtmbbkfffcflfcaaGreatDoor
set_option linter.unusedSimpArgs false
set_option linter.unusedVariables false
open Go.RowKit
open IntWalk renaming iteOmega → O, toNatUp → U
structure dW (l:List Dev):Prop where
 okt:Okt l
 ord:lL l
 ncl:∀ a ∈ l,∀ b ∈ l,a≠b → cx a b=false
 chk:∀ d ∈ l,aS d=0
 dep:∀ d ∈ l,(bj l d.index).length≤7
 len:l.length≤256
theorem rz (a b:Dev):cx a b=cx b a:=by
 have h1:decide (a.name=b.name)=decide (b.name=a.name):=decide_eq_decide.2 eq_comm;have h2:decide (a.kind=b.kind)=decide (b.kind=a.kind):=decide_eq_decide.2 eq_comm;have h3:decide (a.number=b.number)=decide (b.number=a.number):=decide_eq_decide.2 eq_comm;have h4:decide (bq a=bq b)=decide (bq b=bq a):=decide_eq_decide.2 eq_comm;unfold cx;rw [h1,h2,h3,h4,Bool.and_comm (decide (a.kind=4)),Bool.and_comm (hasN a),Bool.or_comm (eF (bq a) (bq b))]
theorem dW.nil:dW []:=⟨Okt.nil,lL.nil,fun d hd=>(by cases hd),fun d hd=>(by cases hd),fun d hd=>(by cases hd),Nat.zero_le _⟩
theorem gu {l:List Dev} {d x:Dev}:x ∈ eL l d ↔ x=d∨x ∈ l:=by unfold eL;exact qp
theorem Hz (l:List Dev) (d:Dev):(eL l d).length=l.length+1:=by
 have:=mi l (bB l d) l.length;unfold eL;simp only [List.length_append,List.length_take,List.length_drop,List.length_cons,List.length_nil];omega
theorem dW.ins {l:List Dev} (h:dW l) {d:Dev} (he:bU l d=0):dW (eL l d):=by
 obtain ⟨hc,_,_,hl,hd,h6⟩:=gI he;obtain ⟨h1,h2⟩:=h.okt.ins he;have hno:∀ x ∈ l,cx x d=false:=fun x hx=>by
  have:=h6 x hx;unfold mj at this;cases hb:cx x d with
  | false=>rfl
  | true=>rw [hb] at this;simp at this
 refine ⟨h1,h.ord.ins h.okt he,fun a ha b hb hne=>?_,fun x hx=>(gu.1 hx).elim (fun e=>by rw [e];exact hc) (h.chk x),fun x hx=>?_,by rw [Hz];omega⟩
 ·rcases gu.1 ha with ea|ha'<;>rcases gu.1 hb with eb|hb'
  ·exact absurd (ea.trans eb.symm) hne
  ·rw [ea,rz];exact hno b hb'
  ·rw [eb];exact hno a ha'
  ·exact h.ncl a ha' b hb' hne
 ·rcases gu.1 hx with e|hx'
  ·rw [e,w9 h.okt he];exact hd
  ·rw [h2 x hx'];exact h.dep x hx'
theorem dW.rem {l:List Dev} (h:dW l) (n:Int):dW (fp l n):=by
 have hm:∀ x ∈ fp l n,x ∈ l:=fun x hx=>(List.mem_filter.1 hx).1
 obtain ⟨h1,h2⟩:=h.okt.rem n;refine ⟨h1,?_,fun a ha b hb=>h.ncl a (hm a ha) b (hm b hb),fun x hx=>h.chk x (hm x hx),fun x hx=>by rw [h2 x hx];exact h.dep x (hm x hx),Nat.le_trans (List.length_filter_le _ _) h.len⟩;unfold lL;refine List.Pairwise.imp_of_mem (R:=fun a b=>cu (bj l a.index) (bj l b.index) < 0) (fun ha hb hab=>by rw [h2 _ ha,h2 _ hb];exact hab) ?_;exact h.ord.filter _
def sG (o d:Dev) (x:Dev):Dev:=if x=o then d else x
structure KA (l:List Dev) (d o:Dev):Prop where
 mem:o ∈ l
 ix:o.index=d.index
 kp:iF (sG o d)
 eq:ed l d=l.map (sG o d)
 kind:d.kind=o.kind
 chk:aS d=0
 no:∀ x ∈ l,x≠o → cx x d=false
theorem ny {l:List Dev} (hn:(l.map Dev.index).Nodup) {x y:Dev} (hx:x ∈ l) (hy:y ∈ l) (e:x.index=y.index):x=y:=by
 have h1:=dj hn hx;rw [e,dj hn hy] at h1;exact (Option.some.inj h1).symm
theorem oy {l:List Dev} (hn:(l.map Dev.index).Nodup) {d:Dev} (h:aR l d=0):∃ o,KA l d o:=by
 unfold aR at h;cases hf:aG l d.index with
 | none=>rw [hf] at h;cases h
 | some o =>
  rw [hf] at h;simp only at h;obtain ⟨hm,hi⟩:=eu hf;by_cases h1:aS d=0
  case neg=>rw [if_pos h1] at h;cases h
  rw [if_neg (fun h=>h h1)] at h;by_cases h2:d.parent≠o.parent∨d.original≠o.original∨d.kind≠o.kind
  ·rw [if_pos h2] at h;cases h
  rw [if_neg h2] at h;by_cases h3:ci l d=true
  ·rw [if_pos h3] at h;cases h
  have hp:d.parent=o.parent:=Decidable.byContradiction fun e=>h2 (.inl e)
  have ho:d.original=o.original:=Decidable.byContradiction fun e=>h2 (.inr (.inl e))
  have hk:d.kind=o.kind:=Decidable.byContradiction fun e=>h2 (.inr (.inr e))
  refine ⟨o,hm,hi,⟨fun x=>?_,fun x=>?_,fun x=>?_⟩,?_,hk,h1,fun x hx hne=>?_⟩
  ·unfold sG;split
   ·rename_i e;rw [e];exact hi.symm
   ·rfl
  ·unfold sG;split
   ·rename_i e;rw [e];exact hp
   ·rfl
  ·unfold sG;split
   ·rename_i e;rw [e];exact ho
   ·rfl
  ·unfold ed;refine List.map_congr_left fun x hx=>?_
   unfold sG;by_cases e:x=o
   ·rw [if_pos e,if_pos (by rw [e];exact hi)]
   ·rw [if_neg e,if_neg (fun e2=>e (ny hn hx hm (e2.trans hi.symm)))]
  ·cases hc:cx x d with
   | false=>rfl
   | true =>
    exfalso;apply h3;unfold ci;rw [List.any_eq_true];refine ⟨x,hx,?_⟩;rw [hc,Bool.and_true,Bool.not_eq_true',decide_eq_false_iff_not];exact fun e=>hne (ny hn hx hm (e.trans hi.symm))
theorem dW.chg {l:List Dev} (h:dW l) {d:Dev} (he:aR l d=0):dW (ed l d):=by
 obtain ⟨o,hc⟩:=oy h.okt.nodup he;have hF:∀ x,sG o d x=d∧x=o∨sG o d x=x∧x≠o:=fun x=>by
  unfold sG;by_cases e:x=o
  ·exact .inl ⟨if_pos e,e⟩
  ·exact .inr ⟨if_neg e,e⟩
 rw [hc.eq];refine ⟨hc.kp.okt h.okt,hc.kp.ord h.ord,fun a ha b hb hne=>?_,fun x hx=>?_,fun x hx=>?_,by rw [List.length_map];exact h.len⟩
 ·obtain ⟨x,hx,rfl⟩:=List.mem_map.1 ha;obtain ⟨y,hy,rfl⟩:=List.mem_map.1 hb;rcases hF x with ⟨e1,e2⟩|⟨e1,e2⟩<;>rcases hF y with ⟨e3,e4⟩|⟨e3,e4⟩
  ·exact absurd (e1.trans e3.symm) hne
  ·rw [e1,e3,rz];exact hc.no y hy e4
  ·rw [e1,e3];exact hc.no x hx e2
  ·rw [e1,e3];exact h.ncl x hx y hy (fun e=>hne (by rw [e1,e3,e]))
 ·obtain ⟨y,hy,rfl⟩:=List.mem_map.1 hx;rcases hF y with ⟨e1,e2⟩|⟨e1,e2⟩
  ·rw [e1];exact hc.chk
  ·rw [e1];exact h.chk y hy
 ·obtain ⟨y,hy,rfl⟩:=List.mem_map.1 hx;rw [hc.kp.orig',hc.kp.ix];exact h.dep y hy
structure Evt where
 seq:Int
 act:Int
 idx:Int
 path:ByteArray
 old:ByteArray
 deriving DecidableEq,Inhabited
def Evt.d (e:Evt):List D:=[.v (.int .i64 e.seq),.v (.int .i64 e.act),.v (.int .i64 e.idx),.v (.string e.path),.v (.string e.old)]
def Evt.e (e:Evt):List E:=[.v (.int .i64 e.seq),.v (.int .i64 e.act),.v (.int .i64 e.idx),.v (.string e.path),.v (.string e.old)]
attribute [push_cast] Evt.d Evt.e
structure Ker where
 tree:List Dev
 mods:List Mod
 loaded:List ByteArray
 evs:List Evt
 top:Int
def bF (l:List Dev) (n:Int):ByteArray:=fC (((dy l n).map Dev.name).reverse)
def Ker.tell (k:Ker) (a ix:Int) (path old:ByteArray):Ker:=⟨k.tree,k.mods,k.loaded,k.evs++[⟨(k.evs.length:Int)+1,a,ix,path,old⟩],k.top⟩
def Ker.emit (k:Ker) (a ix:Int) (old:ByteArray):Ker:=k.tell a ix (bF k.tree ix) old
def Ker.withT (k:Ker) (l:List Dev):Ker:=⟨l,k.mods,k.loaded,k.evs,k.top⟩
def dS (d:Dev) (v:ByteArray):Dev:=⟨d.index,d.parent,d.name,d.original,d.subsystem,v,d.alias_,d.kind,d.number,d.attrs⟩
def il (d:Dev) (l:List Atr):Dev:=⟨d.index,d.parent,d.name,d.original,d.subsystem,d.driver,d.alias_,d.kind,d.number,l⟩
def jc (d:Dev) (u:ByteArray):Dev:=⟨d.index,d.parent,u,d.original,d.subsystem,d.driver,d.alias_,d.kind,d.number,d.attrs⟩
def Ker.drive (k:Ker) (d:Dev) (v:ByteArray):Ker × Int :=
 if aR k.tree (dS d v)=0 then ((k.withT (ed k.tree (dS d v))).emit (if v=⟨#[]⟩ then 6 else 5) d.index ⟨#[]⟩,0) else (k,aR k.tree (dS d v))
def dU (m:Mod) (d:Dev):Bool:=!decide (d.alias_=⟨#[]⟩) && m.aliases.any fun p=>bH p d.alias_
def fF (k:Ker) (p:Int) (x:Dev):Dev:=⟨k.top+1,p,x.original,x.original,x.subsystem,⟨#[]⟩,x.alias_,x.kind,x.number,x.attrs⟩
def iL (k:Ker) (d:Dev):Option ByteArray:=k.loaded.find? fun s=>dU ((aJ k.mods s).getD bW) d
def fq (l:List Dev) (path:ByteArray):Int:=match atD l path with
 | some p=>p.index
 | none=>0
def Ker.put (k:Ker) (d:Dev):Ker:=(⟨eL k.tree d,k.mods,k.loaded,k.evs,d.index⟩:Ker).emit 1 d.index ⟨#[]⟩
def Ker.add (k:Ker) (path:ByteArray) (x:Dev):Ker × Int × Int :=
 if path≠⟨#[]⟩∧(atD k.tree path).isNone=true then (k,0,51) else
 if bU k.tree (fF k (fq k.tree path) x)≠0 then (k,0,bU k.tree (fF k (fq k.tree path) x)) else
 match iL k (fF k (fq k.tree path) x) with
 | none=>(k.put (fF k (fq k.tree path) x),k.top+1,0)
 | some s=>(((k.put (fF k (fq k.tree path) x)).drive (fF k (fq k.tree path) x) s).1,k.top+1,((k.put (fF k (fq k.tree path) x)).drive (fF k (fq k.tree path) x) s).2)
def eI (l:List Dev) (n:Int):List Dev:=l.filter fun d=>bO l d.index n
def ey (l:List Dev):Nat → List Dev → List Evt
 | _,[]=>[]
 | n,d :: ds=>⟨(n:Int)+1,2,d.index,bF l d.index,⟨#[]⟩⟩ :: ey l (n+1) ds
def Ker.remove (k:Ker) (d:Dev):Ker × Int:=(⟨fp k.tree d.index,k.mods,k.loaded,k.evs++ey k.tree k.evs.length (eI k.tree d.index).reverse,k.top⟩,0)
def Ker.set (k:Ker) (d:Dev) (n:ByteArray) (na:List Atr) (same:Bool):Ker × Int :=
 if validS n=false then (k,41) else
 if aR k.tree (il d na)≠0 then (k,aR k.tree (il d na)) else
 (if same=true then k.withT (ed k.tree (il d na)) else (k.withT (ed k.tree (il d na))).emit 3 d.index ⟨#[]⟩,0)
def Ker.trigger (k:Ker) (d:Dev):Ker × Int:=(k.emit 3 d.index ⟨#[]⟩,0)
def Ker.rename (k:Ker) (d:Dev) (u:ByteArray):Ker × Int :=
 if d.kind≠4 then (k,55) else
 if aR k.tree (jc d u)≠0 then (k,aR k.tree (jc d u)) else
 (if d.name=u then k.withT (ed k.tree (jc d u)) else (k.withT (ed k.tree (jc d u))).emit 4 d.index (bF k.tree d.index),0)
def Ker.bind (k:Ker) (d:Dev) (v:ByteArray):Ker × Int :=
 if d.driver≠⟨#[]⟩ then (k,52) else if validS v=false then (k,41) else k.drive d v
def Ker.unbind (k:Ker) (d:Dev):Ker × Int:=if d.driver=⟨#[]⟩ then (k,52) else k.drive d ⟨#[]⟩
def Ker.each (k:Ker) (q:Dev → Bool) (v:ByteArray) (l:List Dev):Ker:=l.foldl (fun k d=>if q d=true then (k.drive d v).1 else k) k
def Ker.withL (k:Ker) (l:List ByteArray):Ker:=⟨k.tree,k.mods,l,k.evs,k.top⟩
def Ker.load (k:Ker) (n:ByteArray):Ker × Int:=match aJ k.mods n with
 | none=>(k,51)
 | some m=>if inM n k.loaded=true∨m.fails=true∨(m.needs.any fun s=>!inM s k.loaded)=true then (k,53) else
  ((k.withL (k.loaded++[n])).each (fun d=>decide (d.driver=⟨#[]⟩) && dU m d) n k.tree,0)
def Ker.needed (k:Ker) (n:ByteArray):Bool:=k.loaded.any fun s=>inM n ((aJ k.mods s).getD bW).needs
def Ker.unload (k:Ker) (n:ByteArray):Ker × Int:=match aJ k.mods n with
 | none=>(k,51)
 | some m=>if inM n k.loaded=false∨k.needed n=true then (k,53) else
  ((k.withL (k.loaded.filter fun s=>!decide (s=n))).each (fun d=>decide (d.driver=n)) ⟨#[]⟩ k.tree,0)
theorem lE {l:List Dev} (h:dW l) {d:Dev} (hd:d ∈ l) {v:ByteArray} (hv:v=⟨#[]⟩∨validS v=true):aR l (dS d v)=0:=by
 have hf:aG l (dS d v).index=some d:=dj h.okt.nodup hd;have h1:=h.chk d hd;have n1:=kS h1;have n2:=nw h1;have hM:namedM (dS d v)=true:=by
  unfold namedM at n2 ⊢;simp only [Bool.and_eq_true] at n2 ⊢;refine ⟨⟨n2.1.1,?_⟩,n2.2⟩;rw [Bool.or_eq_true,decide_eq_true_eq];exact hv
 have hc:aS (dS d v)=0:=by
  have hN:dI (dS d v)=dI d:=rfl;unfold aS at h1 ⊢;rw [n1,n2] at h1;rw [hN,n1,hM];exact h1
 unfold aR;rw [hf];simp only;rw [if_neg (fun h=>h hc),if_neg (by rintro (h|h|h)<;>exact h rfl),if_neg];intro h2;unfold ci at h2;obtain ⟨x,hx,h3⟩:=List.any_eq_true.1 h2;rw [Bool.and_eq_true,Bool.not_eq_true',decide_eq_false_iff_not] at h3;have h4:=h.ncl x hx d hd (fun e=>h3.1 (by rw [e];rfl));have h5:cx x (dS d v)=cx x d:=rfl;rw [h5,h4] at h3;cases h3.2
def EvN (l:List Evt):Prop:=∀ i,i < l.length → (l.getD i default).seq=(i:Int)+1
theorem EvN.nil:EvN []:=fun i h=>by simp at h
theorem EvN.snoc {l:List Evt} (h:EvN l) (a ix:Int) (p o:ByteArray):EvN (l++[⟨(l.length:Int)+1,a,ix,p,o⟩]):=fun i hi=>by
 rw [List.length_append,List.length_singleton] at hi;by_cases e:i=l.length
 ·subst e;rw [List.getD_eq_getElem?_getD,List.getElem?_append_right (Nat.le_refl _)];simp
 ·rw [List.getD_eq_getElem?_getD,List.getElem?_append_left ac,← List.getD_eq_getElem?_getD];exact h i ac
inductive cy:List Evt → List Int → Int → Prop
 | nil:cy [] [] 0
 | add {es:List Evt} {L:List Int} {t:Int} (h:cy es L t) (e:Evt) (h1:e.act=1) (h2:t < e.idx) (h3:e.idx ∉ L):cy (es++[e]) (L++[e.idx]) e.idx
 | rem {es:List Evt} {L:List Int} {t:Int} (h:cy es L t) (e:Evt) (h1:e.act=2) (h2:e.idx ∈ L):cy (es++[e]) (L.erase e.idx) t
 | oth {es:List Evt} {L:List Int} {t:Int} (h:cy es L t) (e:Evt) (h1:e.act≠1) (h2:e.act≠2) (h3:e.idx ∈ L):cy (es++[e]) L t
structure bJ (k:Ker):Prop where
 tree:dW k.tree
 top0:0≤k.top
 top:∀ d ∈ k.tree,d.index≤k.top
 evn:EvN k.evs
 tell:∃ L t,cy k.evs L t∧t≤k.top∧L.Perm (k.tree.map Dev.index)
 mods:∀ m ∈ k.mods,validS m.name=true
 load:∀ s ∈ k.loaded,∃ m,aJ k.mods s=some m∧m.fails=false∧∀ n ∈ m.needs,n ∈ k.loaded
 lnd:k.loaded.Nodup
 slf:∀ s ∈ k.loaded,∀ m,aJ k.mods s=some m → s ∉ m.needs
theorem ez {l:List Mod} {n:ByteArray} {m:Mod} (h:aJ l n=some m):m ∈ l∧m.name=n :=
 ⟨List.mem_of_find?_eq_some h,by simpa using List.find?_some h⟩
theorem bJ.new {mods:List Mod} (h:∀ m ∈ mods,validS m.name=true):bJ ⟨[],mods,[],[],0⟩ :=
 ⟨dW.nil,Int.le_refl _,(fun d hd=>by cases hd),EvN.nil,⟨[],0,cy.nil,Int.le_refl _,List.Perm.refl _⟩,h,(fun s hs=>by cases hs),List.nodup_nil,(fun s hs=>by cases hs)⟩
theorem bJ.emit {k:Ker} (h:bJ k) {a ix:Int} (o:ByteArray) (h1:a≠1) (h2:a≠2) (hix:∃ d ∈ k.tree,d.index=ix):bJ (k.emit a ix o):=by
 obtain ⟨L,t,h3,h4,h5⟩:=h.tell;refine ⟨h.tree,h.top0,h.top,h.evn.snoc _ _ _ _,⟨L,t,cy.oth h3 _ h1 h2 ?_,h4,h5⟩,h.mods,h.load,h.lnd,h.slf⟩;obtain ⟨d,hd,rfl⟩:=hix;exact h5.mem_iff.2 (List.mem_map.2 ⟨d,hd,rfl⟩)
theorem HA {l:List Dev} (hn:(l.map Dev.index).Nodup) {d:Dev} (he:aR l d=0):(ed l d).map Dev.index=l.map Dev.index:=by
 obtain ⟨o,hc⟩:=oy hn he;rw [hc.eq];exact hc.kp.ixs l
theorem bJ.chg {k:Ker} (h:bJ k) {d:Dev} (he:aR k.tree d=0):bJ (k.withT (ed k.tree d)):=by
 have hi:=HA h.tree.okt.nodup he;refine ⟨h.tree.chg he,h.top0,fun x hx=>?_,h.evn,?_,h.mods,h.load,h.lnd,h.slf⟩
 ·have hm:x.index ∈ (ed k.tree d).map Dev.index:=List.mem_map.2 ⟨x,hx,rfl⟩;rw [hi] at hm;obtain ⟨y,hy,e⟩:=List.mem_map.1 hm;rw [← e];exact h.top y hy
 ·obtain ⟨L,t,h3,h4,h5⟩:=h.tell;exact ⟨L,t,h3,h4,by show L.Perm ((ed k.tree d).map Dev.index);rw [hi];exact h5⟩
theorem u4 {l:List Dev} (hn:(l.map Dev.index).Nodup) {d:Dev} (he:aR l d=0):∃ x ∈ ed l d,x.index=d.index:=by
 obtain ⟨o,hc⟩:=oy hn he;refine ⟨d,?_,rfl⟩;rw [hc.eq];exact List.mem_map.2 ⟨o,hc.mem,by unfold sG;rw [if_pos rfl]⟩
theorem bJ.drive {k:Ker} (h:bJ k) (d:Dev) (v:ByteArray):bJ (k.drive d v).1:=by
 unfold Ker.drive;by_cases he:aR k.tree (dS d v)=0
 ·rw [if_pos he];refine (h.chg he).emit _ ?_ ?_ (u4 h.tree.okt.nodup he);all_goals split<;>decide
 ·rw [if_neg he];exact h
theorem bJ.put {k:Ker} (h:bJ k) {d:Dev} (he:bU k.tree d=0) (hi:d.index=k.top+1):bJ (k.put d):=by
 obtain ⟨L,t,h3,h4,h5⟩:=h.tell;have hmem:∀ x ∈ eL k.tree d,x=d∨x ∈ k.tree:=fun x hx=>gu.1 hx
 have h0:=h.top0;refine ⟨h.tree.ins he,by show (0:Int)≤d.index;omega,fun x hx=>?_,h.evn.snoc _ _ _ _,⟨L++[d.index],d.index,cy.add h3 _ rfl (show t < d.index by omega) ?_,Int.le_refl _,?_⟩,h.mods,h.load,h.lnd,h.slf⟩
 ·show x.index≤d.index;rcases hmem x hx with e|hx'
  ·rw [e];exact Int.le_refl _
  ·have:=h.top x hx';omega
 ·intro hm;obtain ⟨x,hx,e⟩:=List.mem_map.1 (h5.mem_iff.1 hm);have:=h.top x hx;have e:x.index=d.index:=e;omega
 ·show (L++[d.index]).Perm ((eL k.tree d).map Dev.index);have hp:(eL k.tree d).Perm (d :: k.tree):=by unfold eL;exact wZ _ _ _
  refine (List.perm_append_comm.trans ?_).trans (hp.map Dev.index).symm;rw [List.map_cons,List.singleton_append];exact h5.cons _
theorem Aw (l:List Dev):∀ (ds:List Dev) {es:List Evt},EvN es → EvN (es++ey l es.length ds)
 | [],es,h=>by rw [ey,List.append_nil];exact h
 | d :: ds,es,h=>by
  rw [ey];have h1:=h.snoc 2 d.index (bF l d.index) ⟨#[]⟩;have h2:=Aw l ds h1;rw [List.append_assoc,List.length_append,List.length_singleton] at h2;exact h2
theorem xb (l:List Dev):∀ (ds:List Dev) {es:List Evt} {L:List Int} {t:Int},cy es L t → (ds.map Dev.index).Nodup → (∀ d ∈ ds,d.index ∈ L) → ∃ L',cy (es++ey l es.length ds) L' t∧(ds.map Dev.index++L').Perm L
 | [],es,L,t,h,_,_=>⟨L,by rw [ey,List.append_nil];exact h,List.Perm.refl _⟩
 | d :: ds,es,L,t,h,hn,hm=>by
  rw [List.map_cons,List.nodup_cons] at hn;have hd:=hm d (List.mem_cons_self ..);have h1:=cy.rem h ⟨(es.length:Int)+1,2,d.index,bF l d.index,⟨#[]⟩⟩ rfl hd;obtain ⟨L',h2,h3⟩:=xb l ds h1 hn.2 fun x hx=>by
   refine (List.mem_erase_of_ne ?_).2 (hm x (List.mem_cons_of_mem _ hx));exact fun e=>hn.1 (List.mem_map.2 ⟨x,hx,e⟩)
  refine ⟨L',?_,?_⟩
  ·rw [List.append_assoc,List.length_append,List.length_singleton] at h2;rw [ey];exact h2
  ·rw [List.map_cons,List.cons_append];exact (h3.cons _).trans (List.perm_cons_erase hd).symm
theorem bJ.remove {k:Ker} (h:bJ k) (d:Dev):bJ (k.remove d).1:=by
 obtain ⟨L,t,h3,h4,h5⟩:=h.tell;have hsub:(k.tree.filter fun x=>bO k.tree x.index d.index).Sublist k.tree:=List.filter_sublist;obtain ⟨L',h6,h7⟩:=xb k.tree (eI k.tree d.index).reverse h3 (by
  rw [List.map_reverse];exact (List.reverse_perm _).symm.nodup ((hsub.map Dev.index).nodup h.tree.okt.nodup)) fun x hx=>h5.mem_iff.2 (List.mem_map.2 ⟨x,hsub.subset (List.mem_reverse.1 hx),rfl⟩)
 refine ⟨h.tree.rem d.index,h.top0,fun x hx=>h.top x (List.mem_filter.1 hx).1,Aw _ _ h.evn,⟨L',t,h6,h4,?_⟩,h.mods,h.load,h.lnd,h.slf⟩;show L'.Perm ((fp k.tree d.index).map Dev.index);have h8:(k.tree.map Dev.index).Perm ((eI k.tree d.index).map Dev.index++(fp k.tree d.index).map Dev.index):=by
  rw [← List.map_append];exact (List.filter_append_perm (fun x=>bO k.tree x.index d.index) k.tree).symm.map _
 have h9:((eI k.tree d.index).map Dev.index++L').Perm ((eI k.tree d.index).map Dev.index++(fp k.tree d.index).map Dev.index):=by
  refine List.Perm.trans ?_ (h7.trans (h5.trans h8));rw [List.map_reverse];exact (List.reverse_perm _).symm.append_right _
 exact (List.perm_append_left_iff _).1 h9
theorem EZ {l:List Dev} {p:ByteArray} {d:Dev} (h:atD l p=some d):d ∈ l:=List.mem_of_find?_eq_some h
theorem bJ.trigger {k:Ker} (h:bJ k) {d:Dev} (hd:d ∈ k.tree):bJ (k.trigger d).1:=h.emit _ af af ⟨d,hd,rfl⟩
theorem bJ.set {k:Ker} (h:bJ k) (d:Dev) (n:ByteArray) (na:List Atr) (same:Bool):bJ (k.set d n na same).1:=by
 unfold Ker.set;split
 ·exact h
 ·by_cases he:aR k.tree (il d na)=0
  ·rw [if_neg (fun h=>h he)];simp only;split
   ·exact h.chg he
   ·exact (h.chg he).emit _ af af (u4 h.tree.okt.nodup he)
  ·rw [if_pos he];exact h
theorem bJ.rename {k:Ker} (h:bJ k) (d:Dev) (u:ByteArray):bJ (k.rename d u).1:=by
 unfold Ker.rename;split
 ·exact h
 ·by_cases he:aR k.tree (jc d u)=0
  ·rw [if_neg (fun h=>h he)];simp only;split
   ·exact h.chg he
   ·exact (h.chg he).emit _ af af (u4 h.tree.okt.nodup he)
  ·rw [if_pos he];exact h
theorem bJ.bind {k:Ker} (h:bJ k) (d:Dev) (v:ByteArray):bJ (k.bind d v).1:=by
 unfold Ker.bind;split
 ·exact h
 ·split
  ·exact h
  ·exact h.drive d v
theorem bJ.unbind {k:Ker} (h:bJ k) (d:Dev):bJ (k.unbind d).1:=by
 unfold Ker.unbind;split
 ·exact h
 ·exact h.drive d _
theorem bJ.each {k:Ker} (h:bJ k) (q:Dev → Bool) (v:ByteArray):∀ l:List Dev,bJ (k.each q v l):=fun l=>by
 unfold Ker.each;induction l generalizing k with
 | nil=>exact h
 | cons d l ih =>
  rw [List.foldl_cons];split
  ·exact ih (h.drive d v)
  ·exact ih h
theorem mm (k:Ker) (d:Dev) (v:ByteArray):(k.drive d v).1.loaded=k.loaded∧(k.drive d v).1.mods=k.mods∧(k.drive d v).1.top=k.top:=by
 unfold Ker.drive;split<;>exact ⟨rfl,rfl,rfl⟩
theorem lF (q:Dev → Bool) (v:ByteArray):∀ (l:List Dev) (k:Ker),(k.each q v l).loaded=k.loaded∧(k.each q v l).mods=k.mods∧(k.each q v l).top=k.top
 | [],k=>⟨rfl,rfl,rfl⟩
 | d :: l,k=>by
  have h:k.each q v (d :: l)=(if q d=true then (k.drive d v).1 else k).each q v l:=rfl;rw [h];obtain ⟨h1,h2,h3⟩:=lF q v l (if q d=true then (k.drive d v).1 else k);obtain ⟨g1,g2,g3⟩:=mm k d v;rw [h1,h2,h3];split
  ·exact ⟨g1,g2,g3⟩
  ·exact ⟨rfl,rfl,rfl⟩
theorem bJ.load_ {k:Ker} (h:bJ k) (n:ByteArray):bJ (k.load n).1:=by
 unfold Ker.load;cases hm:aJ k.mods n with
 | none=>exact h
 | some m =>
  simp only;split
  ·exact h
  ·rename_i hc;rw [not_or,not_or] at hc;obtain ⟨c1,c2,c3⟩:=hc;have c1:inM n k.loaded=false:=by simpa using c1
   refine bJ.each (k:=k.withL (k.loaded++[n])) ⟨h.tree,h.top0,h.top,h.evn,h.tell,h.mods,fun s hs=>?_,?_,fun s hs m2 hm2=>?_⟩ _ n k.tree
   ·have hs:s ∈ k.loaded++[n]:=hs;show ∃ m,aJ k.mods s=some m∧m.fails=false∧∀ x ∈ m.needs,x ∈ k.loaded++[n]
    rcases List.mem_append.1 hs with hs|hs
    ·obtain ⟨m2,g1,g2,g3⟩:=h.load s hs;exact ⟨m2,g1,g2,fun x hx=>List.mem_append_left _ (g3 x hx)⟩
    ·rw [List.mem_singleton] at hs;subst hs;refine ⟨m,hm,by simpa using c2,fun x hx=>List.mem_append_left _ ?_⟩;rw [← gp];cases hi:inM x k.loaded with
     | true=>rfl
     | false =>
      exfalso;apply c3;rw [List.any_eq_true];exact ⟨x,hx,by rw [hi];rfl⟩
   ·show (k.loaded++[n]).Nodup;rw [List.nodup_append];exact ⟨h.lnd,by simp,fun a ha b hb=>by rw [List.mem_singleton] at hb;rw [hb];exact fun e=>gA.1 c1 (e ▸ ha)⟩
   ·have hs:s ∈ k.loaded++[n]:=hs;have hm3:aJ k.mods s=some m2:=hm2;rcases List.mem_append.1 hs with hs|hs
    ·exact h.slf s hs m2 hm3
    ·rw [List.mem_singleton] at hs;subst hs;rw [hm] at hm3;injection hm3 with hm3
     subst hm3;intro hx;apply c3;rw [List.any_eq_true];exact ⟨s,hx,by rw [c1];rfl⟩
theorem bJ.unload {k:Ker} (h:bJ k) (n:ByteArray):bJ (k.unload n).1:=by
 unfold Ker.unload;cases hm:aJ k.mods n with
 | none=>exact h
 | some m =>
  simp only;split
  ·exact h
  ·rename_i hc;rw [not_or] at hc;obtain ⟨c1,c2⟩:=hc;refine bJ.each (k:=k.withL (k.loaded.filter fun s=>!decide (s=n))) ⟨h.tree,h.top0,h.top,h.evn,h.tell,h.mods,fun s hs=>?_,?_,fun s hs m2 hm2=>h.slf s (List.mem_filter.1 hs).1 m2 hm2⟩ _ _ k.tree
   ·have hs:s ∈ k.loaded.filter fun s=>!decide (s=n):=hs
    show ∃ m,aJ k.mods s=some m∧m.fails=false∧∀ x ∈ m.needs,x ∈ k.loaded.filter fun s=>!decide (s=n)
    have hs2:=(List.mem_filter.1 hs).1;obtain ⟨m2,g1,g2,g3⟩:=h.load s hs2;refine ⟨m2,g1,g2,fun x hx=>?_⟩;refine List.mem_filter.2 ⟨g3 x hx,?_⟩;rw [Bool.not_eq_true',decide_eq_false_iff_not];intro e;apply c2;unfold Ker.needed;rw [List.any_eq_true];refine ⟨s,hs2,?_⟩;rw [g1,gp,← e];exact hx
   ·exact h.lnd.filter _
theorem bJ.add {k:Ker} (h:bJ k) (p:ByteArray) (x:Dev):bJ (k.add p x).1:=by
 unfold Ker.add;split
 ·exact h
 ·by_cases he:bU k.tree (fF k (fq k.tree p) x)=0
  ·rw [if_neg (fun h=>h he)];have hp:=h.put he rfl;cases iL k (fF k (fq k.tree p) x) with
   | none=>exact hp
   | some s=>exact hp.drive _ _
  ·rw [if_pos he];exact h
theorem bJ.name {k:Ker} (h:bJ k) {s:ByteArray} (hs:s ∈ k.loaded):validS s=true:=by
 obtain ⟨m,h1,_⟩:=h.load s hs;obtain ⟨h2,h3⟩:=ez h1;rw [← h3];exact h.mods m h2
theorem nz {k:Ker} (h:dW k.tree) {d:Dev} (hd:d ∈ k.tree) {v:ByteArray} (hv:v=⟨#[]⟩∨validS v=true):k.drive d v=((k.withT (ed k.tree (dS d v))).emit (if v=⟨#[]⟩ then 6 else 5) d.index ⟨#[]⟩,0):=by
 unfold Ker.drive;rw [if_pos (lE h hd hv)]
theorem tU {k:Ker} {d:Dev} {s:ByteArray} (h:iL k d=some s):s ∈ k.loaded:=List.mem_of_find?_eq_some h
theorem HC {k:Ker} (h:bJ k) (p:ByteArray) (x:Dev) (he:(k.add p x).2.2≠0):(k.add p x).1=k:=by
 unfold Ker.add at he ⊢;split
 ·rfl
 ·rename_i h1;rw [if_neg h1] at he;by_cases h2:bU k.tree (fF k (fq k.tree p) x)=0
  ·rw [if_neg (fun h=>h h2)] at he ⊢;have hp:=h.put h2 rfl;cases hf:iL k (fF k (fq k.tree p) x) with
   | none=>rw [hf] at he;exact absurd rfl he
   | some s =>
    rw [hf] at he;simp only at he;rw [nz hp.tree (gu.2 (.inl rfl)) (.inr (h.name (tU hf)))] at he;exact absurd rfl he
  ·rw [if_pos h2]
theorem rB (k:Ker) (d:Dev) (v:ByteArray) (he:(k.drive d v).2≠0):(k.drive d v).1=k:=by
 unfold Ker.drive at he ⊢;split
 ·rename_i h;rw [if_pos h] at he;exact absurd rfl he
 ·rfl
theorem HD (k:Ker) (d:Dev) (n:ByteArray) (na:List Atr) (same:Bool) (he:(k.set d n na same).2≠0):(k.set d n na same).1=k:=by
 unfold Ker.set at he ⊢;split
 ·rfl
 ·rename_i h1;rw [if_neg h1] at he;split
  ·rfl
  ·rename_i h2;rw [if_neg h2] at he;exact absurd rfl he
theorem yI (k:Ker) (d:Dev) (u:ByteArray) (he:(k.rename d u).2≠0):(k.rename d u).1=k:=by
 unfold Ker.rename at he ⊢;split
 ·rfl
 ·rename_i h1;rw [if_neg h1] at he;split
  ·rfl
  ·rename_i h2;rw [if_neg h2] at he;exact absurd rfl he
theorem E0 (k:Ker) (d:Dev) (v:ByteArray) (he:(k.bind d v).2≠0):(k.bind d v).1=k:=by
 unfold Ker.bind at he ⊢;split
 ·rfl
 ·rename_i h1;rw [if_neg h1] at he;split
  ·rfl
  ·rename_i h2;rw [if_neg h2] at he;exact rB k d v he
theorem yJ (k:Ker) (d:Dev) (he:(k.unbind d).2≠0):(k.unbind d).1=k:=by
 unfold Ker.unbind at he ⊢;split
 ·rfl
 ·rename_i h1;rw [if_neg h1] at he;exact rB k d _ he
theorem E1 (k:Ker) (n:ByteArray) (he:(k.load n).2≠0):(k.load n).1=k:=by
 unfold Ker.load at he ⊢;cases hm:aJ k.mods n with
 | none=>rfl
 | some m =>
  rw [hm] at he;simp only at he ⊢;split
  ·rfl
  ·rename_i h1;rw [if_neg h1] at he;exact absurd rfl he
theorem yK (k:Ker) (n:ByteArray) (he:(k.unload n).2≠0):(k.unload n).1=k:=by
 unfold Ker.unload at he ⊢;cases hm:aJ k.mods n with
 | none=>rfl
 | some m =>
  rw [hm] at he;simp only at he ⊢;split
  ·rfl
  ·rename_i h1;rw [if_neg h1] at he;exact absurd rfl he
structure Opr where
 kind:Int
 path:ByteArray
 dev:Dev
 name:ByteArray
 value:ByteArray
def Ker.one (sa:List Atr → ByteArray → ByteArray → List Atr) (k:Ker) (op:Opr) (d:Dev):Ker × Int :=
 if op.kind=2 then k.remove d else
 if op.kind=3 then k.set d op.name (sa d.attrs op.name op.value) (decide (((d.attrs.find? fun a=>decide (a.name=op.name)).map Atr.value).getD ⟨#[]⟩=op.value)) else
 if op.kind=4 then k.trigger d else
 if op.kind=5 then k.rename d op.name else
 if op.kind=6 then k.bind d op.value else k.unbind d
def Ker.doM (sa:List Atr → ByteArray → ByteArray → List Atr) (k:Ker) (op:Opr):Ker × Int × Int :=
 if op.kind=1 then k.add op.path op.dev else
 if op.kind=8 then ((k.load op.value).1,0,(k.load op.value).2) else
 if op.kind=9 then ((k.unload op.value).1,0,(k.unload op.value).2) else
 if op.kind < 2∨7 < op.kind then (k,0,50) else
 match atD k.tree op.path with
 | none=>(k,0,51)
 | some d=>((k.one sa op d).1,0,(k.one sa op d).2)
theorem bJ.one {sa:List Atr → ByteArray → ByteArray → List Atr} {k:Ker} (h:bJ k) (op:Opr) {d:Dev} (hd:d ∈ k.tree):bJ (k.one sa op d).1:=by
 unfold Ker.one;split
 ·exact h.remove d
 ·split
  ·exact h.set d _ _ _
  ·split
   ·exact h.trigger hd
   ·split
    ·exact h.rename d _
    ·split
     ·exact h.bind d _
     ·exact h.unbind d
theorem bJ.doM {sa:List Atr → ByteArray → ByteArray → List Atr} {k:Ker} (h:bJ k) (op:Opr):bJ (k.doM sa op).1:=by
 unfold Ker.doM;split
 ·exact h.add _ _
 ·split
  ·exact h.load_ _
  ·split
   ·exact h.unload _
   ·split
    ·exact h
    ·cases ha:atD k.tree op.path with
     | none=>exact h
     | some d=>exact h.one op (EZ ha)
theorem HF (sa:List Atr → ByteArray → ByteArray → List Atr) (k:Ker) (op:Opr) (d:Dev) (he:(k.one sa op d).2≠0):(k.one sa op d).1=k:=by
 unfold Ker.one at he ⊢;split
 ·rename_i h;rw [if_pos h] at he;exact absurd rfl he
 ·rename_i h1;rw [if_neg h1] at he;split
  ·rename_i h;rw [if_pos h] at he;exact HD _ _ _ _ _ he
  ·rename_i h2;rw [if_neg h2] at he;split
   ·rename_i h;rw [if_pos h] at he;exact absurd rfl he
   ·rename_i h3;rw [if_neg h3] at he;split
    ·rename_i h;rw [if_pos h] at he;exact yI _ _ _ he
    ·rename_i h4;rw [if_neg h4] at he;split
     ·rename_i h;rw [if_pos h] at he;exact E0 _ _ _ he
     ·rename_i h5;rw [if_neg h5] at he;exact yJ _ _ he
theorem Jt (sa:List Atr → ByteArray → ByteArray → List Atr) {k:Ker} (h:bJ k) (op:Opr) (he:(k.doM sa op).2.2≠0):(k.doM sa op).1=k:=by
 unfold Ker.doM at he ⊢;split
 ·rename_i h1;rw [if_pos h1] at he;exact HC h _ _ he
 ·rename_i h1;rw [if_neg h1] at he;split
  ·rename_i h2;rw [if_pos h2] at he;exact E1 _ _ he
  ·rename_i h2;rw [if_neg h2] at he;split
   ·rename_i h3;rw [if_pos h3] at he;exact yK _ _ he
   ·rename_i h3;rw [if_neg h3] at he;split
    ·rfl
    ·rename_i h4;rw [if_neg h4] at he;cases ha:atD k.tree op.path with
     | none=>rfl
     | some d=>rw [ha] at he;exact HF _ _ _ _ he
def dF (q:Dev → Bool) (v:ByteArray) (p:List Dev) (x:Dev):Dev:=if x ∈ p∧q x=true then dS x v else x
theorem KB (q:Dev → Bool) (v:ByteArray) (p:List Dev) (x:Dev):(dF q v p x).index=x.index:=by
 unfold dF;split<;>rfl
theorem oz {T:List Dev} (hn:(T.map Dev.index).Nodup) (q:Dev → Bool) {v:ByteArray} (hv:v=⟨#[]⟩∨validS v=true):∀ (l done:List Dev) (k:Ker),(∀ d ∈ l,d ∈ T) → (∀ d ∈ l,d ∉ done) → l.Nodup → dW k.tree → k.tree=T.map (dF q v done) → (k.each q v l).tree=T.map (dF q v (done++l))
 | [],done,k,_,_,_,_,ht=>by rw [List.append_nil];exact ht
 | d :: l,done,k,hT,hd,hnd,hv2,ht=>by
  rw [List.nodup_cons] at hnd;have h0:k.each q v (d :: l)=(if q d=true then (k.drive d v).1 else k).each q v l:=rfl;have hdd:=hd d (List.mem_cons_self ..);have hdT:=hT d (List.mem_cons_self ..);have hself:dF q v done d=d:=by unfold dF;rw [if_neg (fun h=>hdd h.1)]
  have hdk:d ∈ k.tree:=by rw [ht];exact List.mem_map.2 ⟨d,hdT,hself⟩
  have hnext:(if q d=true then (k.drive d v).1 else k).tree=T.map (dF q v (done++[d])):=by
   split
   ·rename_i hq;rw [nz hv2 hdk hv];show ed k.tree (dS d v)=_;unfold ed;rw [ht,List.map_map];refine List.map_congr_left fun x hx=>?_
    show (if (dF q v done x).index=(dS d v).index then dS d v else dF q v done x)=_;rw [KB];by_cases e:x.index=d.index
    ·have:=ny hn hx hdT e;subst this;rw [if_pos (show x.index=(dS x v).index from rfl)];unfold dF;rw [if_pos ⟨by simp,hq⟩]
    ·rw [if_neg (show ¬ x.index=(dS d v).index from e)];unfold dF;have hxd:x≠d:=fun h=>e (by rw [h])
     simp only [List.mem_append,List.mem_singleton,hxd,or_false]
   ·rename_i hq;rw [ht];refine List.map_congr_left fun x hx=>?_
    unfold dF;by_cases e:x=d
    ·subst e;rw [if_neg (fun h=>hq h.2),if_neg (fun h=>hq h.2)]
    ·simp only [List.mem_append,List.mem_singleton,e,or_false]
  have hvn:dW (if q d=true then (k.drive d v).1 else k).tree:=by
   split
   ·rw [nz hv2 hdk hv];exact hv2.chg (lE hv2 hdk hv)
   ·exact hv2
  rw [h0];have:=oz hn q hv l (done++[d]) _ (fun x hx=>hT x (List.mem_cons_of_mem _ hx)) (fun x hx hm=>by
   rcases List.mem_append.1 hm with hm|hm
   ·exact hd x (List.mem_cons_of_mem _ hx) hm
   ·rw [List.mem_singleton] at hm;exact hnd.1 (hm ▸ hx)) hnd.2 hvn hnext
  rw [this,List.append_assoc];rfl
theorem mq (l:List Dev):∀ (ds:List Dev) (n:Nat),(ey l n ds).length=ds.length
 | [],n=>rfl
 | d :: ds,n=>by rw [ey,List.length_cons,List.length_cons,mq l ds (n+1)]
theorem xc {l:List Dev} (h:dW l) {d:Dev} (hd:d ∈ l):aR l d=0∧ed l d=l:=by
 refine ⟨?_,?_⟩
 ·have hf:aG l d.index=some d:=dj h.okt.nodup hd;unfold aR;rw [hf];simp only;rw [if_neg (fun h2=>h2 (h.chk d hd)),if_neg (by rintro (h|h|h)<;>exact h rfl),if_neg];intro h2;unfold ci at h2;obtain ⟨x,hx,h3⟩:=List.any_eq_true.1 h2;rw [Bool.and_eq_true,Bool.not_eq_true',decide_eq_false_iff_not] at h3;rw [h.ncl x hx d hd (fun e=>h3.1 (by rw [e]))] at h3;cases h3.2
 ·unfold ed
  conv=>rhs;rw [← List.map_id l]
  refine List.map_congr_left fun x hx=>?_
  by_cases e:x.index=d.index
  ·rw [if_pos e,ny h.okt.nodup hx hd e];rfl
  ·rw [if_neg e];rfl
theorem E2 {k:Ker} (h:bJ k) {d:Dev} (hd:d ∈ k.tree) {n:ByteArray} (hn:validS n=true) {na:List Atr} (hna:na=d.attrs):k.set d n na true=(k,0):=by
 subst hna;obtain ⟨h1,h2⟩:=xc h.tree hd;have he:il d d.attrs=d:=rfl;unfold Ker.set;rw [he,if_neg (by rw [hn];simp),if_neg (fun h=>h h1),h2,if_pos rfl];rfl
theorem xd {k:Ker} (h:bJ k) {d:Dev} (hd:d ∈ k.tree) (hk:d.kind=4):k.rename d d.name=(k,0):=by
 obtain ⟨h1,h2⟩:=xc h.tree hd;have he:jc d d.name=d:=rfl;unfold Ker.rename;rw [he,if_neg (fun h=>h hk),if_neg (fun h=>h h1),h2,if_pos rfl];rfl
theorem xe {k:Ker} (h:bJ k) (n:ByteArray):k.needed n=(k.loaded.filter fun s=>!decide (s=n)).any fun s=>inM n ((aJ k.mods s).getD bW).needs:=by
 unfold Ker.needed;rw [Bool.eq_iff_iff,List.any_eq_true,List.any_eq_true];constructor
 ·rintro ⟨s,hs,h1⟩;refine ⟨s,List.mem_filter.2 ⟨hs,?_⟩,h1⟩;rw [Bool.not_eq_true',decide_eq_false_iff_not];rintro rfl;obtain ⟨m,h2,_⟩:=h.load s hs;rw [h2,gp] at h1;exact h.slf s hs m h2 h1
 ·rintro ⟨s,hs,h1⟩;exact ⟨s,(List.mem_filter.1 hs).1,h1⟩
theorem E3 {l:List ByteArray} {n:ByteArray}:(l.filter fun s=>!decide (s=n)).length=l.length ↔ inM n l=false:=by
 rw [gA];constructor
 ·intro h hm;have h1:l.filter (fun s=>!decide (s=n))=l:=(List.filter_sublist).eq_of_length h;have h2:=List.mem_filter.1 (h1.symm ▸ hm:n ∈ l.filter fun s=>!decide (s=n));simp at h2
 ·intro h;rw [List.filter_eq_self.2];intro s hs;rw [Bool.not_eq_true',decide_eq_false_iff_not];rintro rfl;exact h hs
theorem kU (k:Ker) (a ix:Int) (o:ByteArray):(k.emit a ix o).evs.length=k.evs.length+1:=by simp [Ker.emit,Ker.tell]
theorem oC (k:Ker) (d:Dev) (v:ByteArray):(k.drive d v).1.evs.length≤k.evs.length+1:=by
 unfold Ker.drive;split
 ·rw [kU];exact Nat.le_refl _
 ·exact Nat.le_succ _
theorem ga (q:Dev → Bool) (v:ByteArray):∀ (l:List Dev) (k:Ker),(k.each q v l).evs.length≤k.evs.length+l.length
 | [],k=>Nat.le_refl _
 | d :: l,k=>by
  have h:=ga q v l (if q d=true then (k.drive d v).1 else k);have h2:(if q d=true then (k.drive d v).1 else k).evs.length≤k.evs.length+1:=by
   split
   ·exact oC k d v
   ·exact Nat.le_succ _
  have h3:(k.each q v (d :: l))=((if q d=true then (k.drive d v).1 else k).each q v l):=rfl;rw [h3,List.length_cons];omega
theorem nA (k:Ker) (d:Dev):(k.put d).evs.length=k.evs.length+1:=kU _ _ _ _
theorem E4 (sa:List Atr → ByteArray → ByteArray → List Atr) {k:Ker} (h:bJ k) (op:Opr):(k.doM sa op).1.evs.length≤k.evs.length+256:=by
 have ht:=h.tree.len;unfold Ker.doM;split
 ·unfold Ker.add;split
  ·simp only;omega
  ·split
   ·simp only;omega
   ·split
    ·simp only [nA];omega
    ·have:=oC (k.put (fF k (fq k.tree op.path) op.dev)) (fF k (fq k.tree op.path) op.dev);have h2:=nA k (fF k (fq k.tree op.path) op.dev);rename_i s _;have:=this s;simp only;omega
 ·split
  ·simp only;unfold Ker.load;split
   ·simp only;omega
   ·split
    ·simp only;omega
    ·rename_i m _ _;have:=ga (fun d=>decide (d.driver=⟨#[]⟩) && dU m d) op.value k.tree (k.withL (k.loaded++[op.value]));simp only [Ker.withL] at this ⊢;omega
  ·split
   ·simp only;unfold Ker.unload;split
    ·simp only;omega
    ·split
     ·simp only;omega
     ·have:=ga (fun d=>decide (d.driver=op.value)) ⟨#[]⟩ k.tree (k.withL (k.loaded.filter fun s=>!decide (s=op.value)));simp only [Ker.withL] at this ⊢;omega
   ·split
    ·simp only;omega
    ·split
     ·simp only;omega
     ·rename_i d _;simp only;have hre:∀ (ds:List Dev) (n:Nat),(ey k.tree n ds).length=ds.length:=fun ds n=>mq k.tree ds n
      have hd:=oC k d;unfold Ker.one;split
      ·unfold Ker.remove;have h1:(eI k.tree d.index).length≤k.tree.length:=List.length_filter_le _ _;simp only [List.length_append,hre,List.length_reverse];omega
      ·split
       ·unfold Ker.set;split
        ·simp only;omega
        ·split
         ·simp only;omega
         ·split
          ·simp only [Ker.withT];omega
          ·simp only [kU,Ker.withT];omega
       ·split
        ·unfold Ker.trigger;simp only [kU];omega
        ·split
         ·unfold Ker.rename;split
          ·simp only;omega
          ·split
           ·simp only;omega
           ·split
            ·simp only [Ker.withT];omega
            ·simp only [kU,Ker.withT];omega
         ·split
          ·unfold Ker.bind;split
           ·simp only;omega
           ·split
            ·simp only;omega
            ·have:=hd op.value;omega
          ·unfold Ker.unbind;split
           ·simp only;omega
           ·have:=hd ⟨#[]⟩;omega
theorem tV {k:Ker} (h:bJ k) (q:Dev → Bool) {v:ByteArray} (hv:v=⟨#[]⟩∨validS v=true) {i:Nat} (hi:i < k.tree.length):aR (k.each q v (k.tree.take i)).tree (dS (k.tree.getD i default) v)=0:=by
 have hnd:=h.tree.okt.nodup;have hnl:k.tree.Nodup:=List.Pairwise.of_map Dev.index (fun a b hab e=>hab (by rw [e])) hnd;have ht:=oz hnd q hv (k.tree.take i) [] k (fun d hd=>List.mem_of_mem_take hd) (fun d _=>by simp) (hnl.sublist (List.take_sublist _ _)) h.tree (by
  have:∀ x ∈ k.tree,dF q v [] x=x:=fun x _=>by unfold dF;simp
  exact (List.map_id'' (fun x=>by unfold dF;simp) _).symm)
 refine lE (h.each q v (k.tree.take i)).tree ?_ hv;rw [ht,List.nil_append];refine List.mem_map.2 ⟨k.tree[i],List.getElem_mem _,?_⟩;rw [ai k.tree hi];unfold dF;rw [if_neg];rintro ⟨hm,_⟩;obtain ⟨j,hj,he⟩:=List.mem_iff_getElem.1 hm;rw [List.length_take] at hj;rw [List.getElem_take] at he;have:=(List.getElem_inj hnl).1 he;omega
theorem tW (k:Ker) (q:Dev → Bool) (v:ByteArray) {i:Nat} (l:List Dev) (hi:i < l.length):k.each q v (l.take (i+1))=if q (l.getD i default)=true then ((k.each q v (l.take i)).drive (l.getD i default) v).1 else k.each q v (l.take i):=by
 unfold Ker.each;rw [List.take_succ_eq_append_getElem hi,List.foldl_append,ai l hi];rfl
end Go.Proofs.YtmbbkfffcflfcaaGreatDoor
