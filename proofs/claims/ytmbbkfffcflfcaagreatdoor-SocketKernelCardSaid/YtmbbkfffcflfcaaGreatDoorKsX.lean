import Derived.Lib.AppendZerosOnto
import Derived.Test.YtmbbkfffcflfcaaGreatDoorT42
namespace Go.Proofs.YtmbbkfffcflfcaaGreatDoor
open Nat renaming reduceAdd → rA
open Go.Proofs.Tryz
set_option linter.unusedSimpArgs false
set_option linter.unusedVariables false
open Go.RowKit
section
open IntWalk renaming iteOmega → O, toNatUp → U
section
variable {rd:Option Nat} {P:Program} {N p:Nat} {Q:Exit → S → Prop} {s:S}
end
theorem nV (b:Bool):(if (!b)=true then (1:Nat) else 0)=if b=true then 0 else 1:=by cases b<;>rfl
section
variable {rd:Option Nat} {P:Program} {N p:Nat} {ct:Option (Nat × List Nat)} {Q:Exit → S → Prop} {s:S}
end
attribute [push_cast] nV
section
variable {rd:Option Nat} {P:Program} {N p:Nat} {Q:Exit → S → Prop} {s:S} {o:Oper} {ops:Array Oper} {rest:List Oper} {K:S → Prop} {fuel:Nat} {listed:Array Bool}
theorem lh (c:Prop) [Decidable c] (f g:S → Prop) (s:S):sel (if c then 0 else 1) f g s=sel (if c then 1 else 0) g f s:=by by_cases h:c<;>simp [h,mX,kJ]
end
attribute [push_cast] lh
end
theorem JR:cn prog 131=some 4∧bG prog 131=some true∧bytOf prog 131=some 48∧zerOf prog 131=some [.v (.slice none 0 0),.v (.int .i64 0),.v (.int .i64 0),.v (.bool false)]∧dH prog 131=some (.agg [.v (.slice none 0 0),.v (.int .i64 0),.v (.int .i64 0),.v (.bool false)])∧bn prog 131 0=some (0,42)∧bn prog 131 1=some (1,3)∧bn prog 131 2=some (2,3)∧bn prog 131 3=some (3,4)∧fc prog 131=some [(0,1),(1,1),(2,1),(3,1)]:=⟨aj,aj,aj,aj,aj,aj,aj,aj,aj,aj⟩
attribute [push_cast] JR
section
open IntWalk renaming iteOmega → O, toNatUp → U
theorem Di {l:List Dev} (h:Okp l):∀ (j:Nat) (hj:j < l.length) (x:Dev),x ∈ dy l l[j].index → ∃ i,∃ hi:i < l.length,i≤j∧l[i]=x:=fun j=>by
 induction j using Nat.strongRecOn with
 | ind j ih =>
  intro hj x hx;rw [ew h (List.getElem_mem hj)] at hx;rcases List.mem_cons.1 hx with e|hx
  ·exact ⟨j,hj,Nat.le_refl _,e.symm⟩
  ·rcases h.par j hj with hp|⟨i,hi,hp⟩
   ·rw [hp,gY (iD h.pos (Int.le_refl _))] at hx;cases hx
   ·rw [← hp] at hx;obtain ⟨i2,hi2,h1,h2⟩:=ih i hi ac x hx;exact ⟨i2,hi2,ac,h2⟩
structure eO (k k':Ker) (new:List Evt):Prop where
 eq:k'.evs=k.evs++new
 no:∀ e ∈ new,e.act≠2
theorem lJ (k:Ker) (d:Dev) (v:ByteArray):∃ new,eO k (k.drive d v).1 new:=by
 unfold Ker.drive;split
 ·refine ⟨_,rfl,fun e he=>?_⟩;rw [List.mem_singleton] at he;rw [he];show (if v=⟨#[]⟩ then (6:Int) else 5)≠2;split<;>decide
 ·exact ⟨[],(List.append_nil _).symm,fun e he=>by cases he⟩
theorem eO.trans {k k' k'':Ker} {a b:List Evt} (h1:eO k k' a) (h2:eO k' k'' b):eO k k'' (a++b) :=
 ⟨by rw [h2.eq,h1.eq,List.append_assoc],fun e he=>(List.mem_append.1 he).elim (h1.no e) (h2.no e)⟩
theorem eO.nil {k k':Ker} (h:k'.evs=k.evs):eO k k' []:=⟨by rw [h,List.append_nil],fun e he=>by cases he⟩
theorem sn (q:Dev → Bool) (v:ByteArray):∀ (l:List Dev) (k:Ker),∃ new,eO k (k.each q v l) new
 | [],k=>⟨[],eO.nil rfl⟩
 | d :: l,k=>by
  have h:k.each q v (d :: l)=(if q d=true then (k.drive d v).1 else k).each q v l:=rfl;rw [h];obtain ⟨b,hb⟩:=sn q v l (if q d=true then (k.drive d v).1 else k);by_cases hq:q d=true
  ·rw [if_pos hq] at hb ⊢;obtain ⟨a,ha⟩:=lJ k d v;exact ⟨_,ha.trans hb⟩
  ·rw [if_neg hq] at hb ⊢;exact ⟨_,hb⟩
structure zL (k:Ker) (new:List Evt):Prop where
 ord:∀ (a b:Nat),b < a → a < new.length → (new.getD a default).act=2 → (new.getD b default).act=2 → ∀ x ∈ dy k.tree (new.getD a default).idx,x.index≠(new.getD a default).idx → x.index≠(new.getD b default).idx
theorem eO.ord {k k':Ker} {new:List Evt} (h:eO k k' new):zL k new:=⟨fun a b hb ha h2=>absurd h2 (h.no _ (by rw [ai new ha];exact List.getElem_mem _))⟩
theorem mH (l:List Dev):∀ (ds:List Dev) (n i:Nat),i < ds.length → ((ey l n ds).getD i default).idx=(ds.getD i default).index
 | [],n,i,h=>by simp at h
 | d :: ds,n,0,h=>rfl
 | d :: ds,n,i+1,h=>by
  rw [ey,List.getD_cons_succ,List.getD_cons_succ];exact mH l ds (n+1) i (by simpa using h)
theorem zM {k:Ker} (h:bJ k) (d:Dev):∃ new,(k.remove d).1.evs=k.evs++new∧zL k new:=by
 refine ⟨_,rfl,⟨fun a b hb ha _ _ x hx hne=>?_⟩⟩;rw [mq] at ha;have hbl:b < (eI k.tree d.index).reverse.length:=ac;rw [mH _ _ _ _ ha] at hx hne;rw [mH _ _ _ _ hbl];have hnd:(k.tree.map Dev.index).Nodup:=h.tree.okt.nodup;have hpw:k.tree.Pairwise fun u w=>w.index ∉ ((dy k.tree u.index).filter fun x=>!decide (x.index=u.index)).map Dev.index:=by
  rw [List.pairwise_iff_getElem];intro i j hi hj hij hm;obtain ⟨y,hy,e⟩:=List.mem_map.1 hm;obtain ⟨hy,_⟩:=List.mem_filter.1 hy;obtain ⟨i2,hi2,h1,h2⟩:=Di h.tree.okt.p i hi y hy;rw [← h2] at e;have h3:=ny hnd (List.getElem_mem hi2) (List.getElem_mem hj) e;have h4:k.tree.Nodup:=List.Pairwise.of_map Dev.index (fun a b hne e=>hne (by rw [e])) hnd;rcases Nat.lt_or_ge i2 j with h5|h5
  ·exact List.pairwise_iff_getElem.1 h4 i2 j hi2 hj h5 h3
  ·omega
 have hpr:(eI k.tree d.index).reverse.Pairwise fun u w=>u.index ∉ ((dy k.tree w.index).filter fun x=>!decide (x.index=w.index)).map Dev.index:=by
  rw [List.pairwise_reverse];exact hpw.filter _
 have h6:=List.pairwise_iff_getElem.1 hpr b a hbl ha hb;rw [ai _ ha] at hx hne;rw [ai _ hbl];intro e;refine h6 (List.mem_map.2 ⟨x,List.mem_filter.2 ⟨hx,?_⟩,e⟩);rw [Bool.not_eq_true',decide_eq_false_iff_not];exact hne
theorem Iq {sa:List Atr → ByteArray → ByteArray → List Atr} {k:Ker} (h:bJ k) (op:Opr) (d:Dev):∃ new,(k.one sa op d).1.evs=k.evs++new∧zL k new:=by
 have hN:∀ {k':Ker} {new:List Evt},eO k k' new → ∃ new,k'.evs=k.evs++new∧zL k new:=fun h=>⟨_,h.eq,h.ord⟩
 have hE:∀ {k':Ker} (a ix:Int) (o:ByteArray),k'.evs=k.evs → a≠2 → ∃ new,(k'.emit a ix o).evs=k.evs++new∧zL k new:=fun {k'} a ix o he ha=>hN (k':=k'.emit a ix o) (new:=[⟨(k'.evs.length:Int)+1,a,ix,bF k'.tree ix,o⟩]) ⟨by show k'.evs++_=_;rw [he],fun e he2=>by rw [List.mem_singleton] at he2;rw [he2];exact ha⟩
 unfold Ker.one;split
 ·exact zM h d
 ·split
  ·unfold Ker.set;split
   ·exact hN (eO.nil rfl)
   ·split
    ·exact hN (eO.nil rfl)
    ·simp only;split
     ·exact hN (eO.nil rfl)
     ·exact hE _ _ _ rfl af
  ·split
   ·exact hE _ _ _ rfl af
   ·split
    ·unfold Ker.rename;split
     ·exact hN (eO.nil rfl)
     ·split
      ·exact hN (eO.nil rfl)
      ·simp only;split
       ·exact hN (eO.nil rfl)
       ·exact hE _ _ _ rfl af
    ·split
     ·unfold Ker.bind;split
      ·exact hN (eO.nil rfl)
      ·split
       ·exact hN (eO.nil rfl)
       ·obtain ⟨a,ha⟩:=lJ k d op.value;exact hN ha
     ·unfold Ker.unbind;split
      ·exact hN (eO.nil rfl)
      ·obtain ⟨a,ha⟩:=lJ k d ⟨#[]⟩;exact hN ha
theorem JS (sa:List Atr → ByteArray → ByteArray → List Atr) {k:Ker} (h:bJ k) (op:Opr):∃ new,(k.doM sa op).1.evs=k.evs++new∧zL k new:=by
 have hN:∀ {k':Ker} {new:List Evt},eO k k' new → ∃ new,k'.evs=k.evs++new∧zL k new:=fun h=>⟨_,h.eq,h.ord⟩
 unfold Ker.doM;split
 ·unfold Ker.add;split
  ·exact hN (eO.nil rfl)
  ·split
   ·exact hN (eO.nil rfl)
   ·have hp:eO k (k.put (fF k (fq k.tree op.path) op.dev)) [⟨(k.evs.length:Int)+1,1,(fF k (fq k.tree op.path) op.dev).index,bF (eL k.tree (fF k (fq k.tree op.path) op.dev)) (fF k (fq k.tree op.path) op.dev).index,⟨#[]⟩⟩]:=⟨rfl,fun e he=>by rw [List.mem_singleton] at he;rw [he];show (1:Int)≠2;decide⟩
    cases iL k (fF k (fq k.tree op.path) op.dev) with
    | none=>exact hN hp
    | some s =>
     obtain ⟨a,ha⟩:=lJ (k.put (fF k (fq k.tree op.path) op.dev)) (fF k (fq k.tree op.path) op.dev) s;exact hN (hp.trans ha)
 ·split
  ·unfold Ker.load;cases aJ k.mods op.value with
   | none=>exact hN (eO.nil rfl)
   | some m =>
    simp only;split
    ·exact hN (eO.nil rfl)
    ·obtain ⟨a,ha⟩:=sn (fun d=>decide (d.driver=⟨#[]⟩) && dU m d) op.value k.tree (k.withL (k.loaded++[op.value]));exact hN ((eO.nil (k:=k) (k':=k.withL (k.loaded++[op.value])) rfl).trans ha)
  ·split
   ·unfold Ker.unload;cases aJ k.mods op.value with
    | none=>exact hN (eO.nil rfl)
    | some m =>
     simp only;split
     ·exact hN (eO.nil rfl)
     ·obtain ⟨a,ha⟩:=sn (fun d=>decide (d.driver=op.value)) ⟨#[]⟩ k.tree (k.withL (k.loaded.filter fun s=>!decide (s=op.value)));exact hN ((eO.nil (k:=k) (k':=k.withL (k.loaded.filter fun s=>!decide (s=op.value))) rfl).trans ha)
   ·split
    ·exact hN (eO.nil rfl)
    ·cases atD k.tree op.path with
     | none=>exact hN (eO.nil rfl)
     | some d=>exact Iq h op d
end
section
attribute [local irreducible] PL QL aL ah bg La aV PA
open IntWalk renaming iteOmega → O, toNatUp → U
set_option maxRecDepth 20000
theorem sj {a b:Evt} (h1:a.seq=b.seq) (h2:a.act=b.act) (h3:a.idx=b.idx) (h4:a.path=b.path) (h5:a.old=b.old):a=b:=by
 cases a;cases b;simp only at h1 h2 h3 h4 h5;rw [h1,h2,h3,h4,h5]
set_option maxHeartbeats 4000000 in
theorem fo (a b:List Evt) (ha:a.length≤1000000000) (hb:b.length≤1000000000) :
  ah prog 30 [.c (.sl 5 (a.map Evt.d)),.c (.sl 5 (b.map Evt.d))] [] fun r os=>r = .c (.v (.bool (decide (a=b))))∧os=[]:=by
 refine aw func30 ntmps30 results30 ?_;push_cast [O,U];have cB:aH 6 []:=trivial;by_cases hl:a.length=b.length
 case neg =>
  have hne:a≠b:=fun e=>hl (by rw [e])
  have hl2:¬ (a.length:Int)=(b.length:Int):=ac;repeat' ((first|refine ae ?_|refine pif ?_ ?_<;>intro h<;>try exact pN h)<;>push_cast [O,U,hl2])
  (refine K9 [] ?_;push_cast [O,U,hne])
 have hl2:(a.length:Int)=(b.length:Int):=ac;have hl3:((b.length:Int)≠(b.length:Int))=False:=by simp
 repeat' ((first|refine ae ?_|refine pif ?_ ?_<;>intro h<;>try exact pN h)<;>push_cast [O,U,hl2,hl3])
 (apply ap (α:=Nat) 6 [] (fun k=>[(5,.c (.v (.int .i64 k)))]) (fun k=>[]) (fun k=>k≤a.length∧a.take k=b.take k) (fun k=>a.length - k) (0);(focus ((try push_cast [O,U]);rfl));(focus exact ⟨ac,by simp⟩);(focus ((refine weak_fg ?_;try push_cast [O,U]))));rintro k ⟨hk,hpre⟩;push_cast [O,U];by_cases hlt:k < a.length
 ·have hlt':k < b.length:=ac;have hlt2:(k:Int) < (b.length:Int):=ac;by_cases he:a.getD k default=b.getD k default
  ·have hp:a.take (k+1)=b.take (k+1):=by
    rw [ai a hlt,ai b hlt'] at he;rw [List.take_succ_eq_append_getElem hlt,List.take_succ_eq_append_getElem hlt',hpre,he]
   repeat' ((first|refine ae ?_|refine pif ?_ ?_<;>intro h<;>try exact pN h)<;>push_cast [O,U,hl2,hlt2,hlt',he])
   all_goals first
    | exact ⟨k+1,⟨ac,hp⟩,aA,ac⟩
    | (exfalso;simp at h)
  ·have hne:a≠b:=fun e=>he (by rw [e])
   repeat' ((first|refine ae ?_|refine pif ?_ ?_<;>intro h<;>try exact pN h)<;>push_cast [O,U,hl2,hlt2,hlt'])
   all_goals first
    | (refine K9 [] ?_;push_cast [O,U,hne];done)
    | (exfalso;apply he;simp only [Bool.and_eq_true,decide_eq_true_eq] at h;exact sj h.1 h.2.1 h.2.2.1 h.2.2.2.1 h.2.2.2.2)
 ·rw [List.take_of_length_le ac,List.take_of_length_le ac] at hpre;have hk2:k=b.length:=ac;subst hk2;repeat' ((first|refine ae ?_|refine pif ?_ ?_<;>intro h<;>try exact pN h)<;>push_cast [O,U,hl2])
  (refine K9 [] ?_;push_cast [O,U,hpre])
end
section
attribute [local irreducible] PL QL aL ah bg La aV PA bm
open IntWalk renaming iteOmega → O, toNatUp → U
set_option maxRecDepth 20000
theorem ig (k:Ker):ah prog 32 [.c (.ptr 0 0)] (bI k) fun r os=>r = .c (.v (.int .i64 k.evs.length))∧os=bI k:=by
 refine aw func32 ntmps32 results32 ?_;push_cast [O,U];repeat' ((first|refine au ?_|refine pif ?_ ?_<;>intro h<;>try exact pN h)<;>push_cast [O,U])
 exact am [0,1,2]
end
section
open IntWalk renaming iteOmega → O, toNatUp → U
theorem sq (z:Array Value):∀ m:Nat,(Builtin.zeroCells z m).toList=(List.replicate m z.toList).flatten
 | 0=>by simp [Builtin.zeroCells]
 | m+1=>by
  have ih:=sq z m;unfold Builtin.zeroCells at ih ⊢;rw [Array.toList_map,Array.toList_range] at ih ⊢;rw [Nat.add_mul,Nat.one_mul,List.range_add,List.map_append,ih,List.replicate_succ',List.flatten_append,List.map_map];congr 1;simp only [List.flatten_cons,List.flatten_nil,List.append_nil];refine List.ext_getElem (by simp) fun j h1 h2=>?_
  rw [List.length_map,List.length_range] at h1;simp only [List.getElem_map,List.getElem_range,Function.comp,Array.getElem_toList];rw [Nat.mul_comm,Nat.mul_add_mod,Nat.mod_eq_of_lt h1];exact getElem!_pos z j h1
theorem Gi {P:Program} {e:TypeId} {zv:List Value} (h:zerOf P e=some (zv.map E.v)):∃ i z,P.info? e=some i∧i.zero=some z∧z.cells.toList=zv∧∀ u ∈ zv,u.oneCell'=true:=by
 unfold zerOf at h;split at h
 ·rename_i i hi;split at h
  ·rename_i v hv;split at h
   ·rename_i hc;have h2:v.cells.toList=zv:=by
     have h3:=Option.some.inj h;have:Function.Injective E.v:=fun a b hab=>by cases hab;rfl
     exact (List.map_inj_right this).1 h3
    refine ⟨i,v,hi,hv,h2,fun u hu=>?_⟩;rw [← h2] at hu;exact List.all_eq_true.1 hc u hu
   ·cases h
  ·cases h
 ·cases h
theorem AS {w:World} {I:Nat → Prop} {zv:List Value} (h1:∀ u ∈ zv,u.oneCell'=true):∀ m:Nat,ay (RD w I) (List.replicate m (zv.map D.v)).flatten (List.replicate m zv).flatten
 | 0=>by simp [ay]
 | m+1=>by
  rw [List.replicate_succ,List.replicate_succ,List.flatten_cons,List.flatten_cons];refine ay.append ?_ (AS h1 m);have:∀ l:List Value,(∀ u ∈ l,u.oneCell'=true) → ay (RD w I) (l.map D.v) l:=by
   intro l;induction l with
   | nil=>intro _;trivial
   | cons a l ih=>intro hl;exact ⟨⟨rfl,hl a (by simp)⟩,ih fun u hu=>hl u (by simp [hu])⟩
  exact this zv h1
section
variable {P:Program} {N p:Nat} {ops:Array Oper} {rest:List Oper} {o:Oper} {s:S} {K:S → Prop}
end
end
section
open IntWalk renaming iteOmega → O, toNatUp → U
section
variable {P:Program} {N p:Nat} {ops:Array Oper} {rest:List Oper} {o:Oper} {s:S} {K:S → Prop}
theorem IC {t e:TypeId} {x z:Operand} {sz by' n:Nat} {kx kz:IntKind} (zv:List Value) (ho:o.op = .makeSlice t x z) (hg:gd ops s o.guard=some true) (hd:bp N o.dst)
  (hel:cY P t=some (e,sz)) (hby:bytOf P e=some by') (hz:zerOf P e=some (zv.map E.v)) (hzl:zv.length=sz) (hsz:0 < sz) (hx:s.ev x=some (.c (.v (.int kx (n:Int))))) (hzz:s.ev z=some (.c (.v (.int kz (n:Int)))))
  (hb1:(by':Int) * n≤281474976710656) (hb2:(n:Int)≤9223372036854775807)
  (hK:PL P N p ops rest (S.put ⟨s.t,s.o++[.arr e sz (List.replicate n (zv.map D.v))]⟩ o.dst (.c (.own s.o.length n))) K):PL P N p ops (o :: rest) s K:=by
 refine mP (q:=.c (.own s.o.length n)) (os:=s.o++[.arr e sz (List.replicate n (zv.map D.v))]) hg (fun Γ a w hA=>?_) (by simp) hd hK;have hI:=hA.inv;have hn:=hI.m.n;obtain ⟨hu,hsz'⟩:=fL hel;obtain ⟨ie,zz,hie,hzv,hzc,hz1⟩:=Gi hz;have hies:ie.size=sz:=by obtain ⟨i',hi',e'⟩:=Option.map_eq_some_iff.1 hsz';rw [hie] at hi';cases hi';exact e'
 have hieb:ie.bytes=by':=by
  obtain ⟨i',hi',e'⟩:=Option.map_eq_some_iff.1 (show (P.info? e).map (·.bytes)=some by' from hby);rw [hie] at hi';cases hi';exact e'
 have hzs:zz.cells.size=sz:=by rw [← Array.length_toList,hzc,hzl]
 have hxv:a.eval x = .int kx (n:Int):=(S.ev_ok hx hI).1;have hzv2:a.eval z = .int kz (n:Int):=(S.ev_ok hzz hI).1;have hr:=run_make (P:=P) w t e ie zz hu hie hzv kx kz n n ac (Int.le_refl _) (by rw [hieb];exact hb1) hb2;simp only [Int.toNat_natCast,hies] at hr;have hmc:madeCells zz.cells (n * sz)=Builtin.zeroCells zz.cells n:=by rw [← hzs];rfl
 rw [hmc] at hr;obtain ⟨xs,hxs⟩:∃ xs,Builtin.zeroCells zz.cells n=xs:=⟨_,rfl⟩
 have hxl:xs.toList=(List.replicate n zv).flatten:=by rw [← hxs,sq,hzc]
 have hxz:xs.size=n * sz:=by rw [← hxs,size_zeroCells,hzs]
 rw [hxs] at hr;have hE:Ext No w (w.alloc (.cells xs e)):=(Ext.refl No w).alloc _;have hS:=bS.of_ext hE;have hrun:(execOp a.eval o).run P w = .ok (.value (.slice (some ⟨w.heap.size,0,none⟩) n n)) (w.alloc (.cells xs e)):=by
  simp only [execOp,ho,hxv,hzv2,Sem.run_bind,hr,Result.andThen_ok,Sem.run_pure]
 have hrl:∀ r ∈ List.replicate n (zv.map D.v),r.length=sz:=fun r hr=>by rw [List.eq_of_mem_replicate hr,List.length_map,hzl]
 rcases Nat.eq_zero_or_pos n with h0|h0
 ·subst h0;have hm:bz (Γ.push 0 0) (s.o++[.arr e sz (List.replicate 0 (zv.map D.v))]) (w.alloc (.cells xs e)):=hI.m.push hS _ 0 0 ⟨by simp,hsz,fun _=>rfl,fun h=>absurd h (by simp [G.push,ax])⟩ (fun h=>absurd h ac);refine ⟨_,_,Γ.push 0 0,.inl hrun,⟨by simp [G.push,hn],.inl ⟨?_,⟨_,rfl⟩,rfl⟩⟩,hI.heap hm (hS.stay Γ.I) (cU Γ 0 0),cz hI.m hE 0 0 (fun h=>absurd h ac) hA.le⟩;rw [← hn];simp [G.push,ax]
 have hag:=cU Γ w.heap.size n;have hm:bz (Γ.push w.heap.size n) (s.o++[.arr e sz (List.replicate n (zv.map D.v))]) (w.alloc (.cells xs e)):=by
  refine hI.m.push hS _ _ _ ⟨hrl,hsz,fun h=>?_,fun _=>⟨xs,?_,?_,?_,?_,?_⟩⟩ (fun _=>Nat.le_refl _)
  ·simp only [G.push,ax] at h;omega
  ·simp only [G.push,ax];exact Blk.new w e xs
  ·simp only [G.push,ax];exact hxz
  ·simp only [G.push,ax,List.length_replicate];exact Nat.le_refl _
  ·simp only [G.push,ax,maxLen];omega
  ·rw [List.length_replicate,List.take_of_length_le (by rw [Array.length_toList,hxz];exact Nat.le_refl _),hxl];exact AS hz1 n
 refine ⟨_,_,Γ.push w.heap.size n,.inl hrun,⟨by simp [G.push,hn],.inr ⟨?_,?_,?_⟩⟩,hI.heap hm (hS.stay Γ.I) hag,cz hI.m hE _ _ (fun _=>Nat.le_refl _) hA.le⟩
 ·simp only [G.push,← hn,ax];exact h0
 ·simp only [G.push,← hn,ax]
 ·simp only [G.push,← hn,ax];exact Nat.le_refl _
theorem ID {t t' e:TypeId} {x y:Operand} {sz k lo n:Nat} {rows ys:List (List D)} (ho:o.op = .call { callee:=.builtin .copy,args := #[x,y],argTypes := #[t,t'] }) (hg:gd ops s o.guard=some true) (hd:bp N o.dst)
  (hel:cY P t=some (e,sz)) (hsz:0 < sz) (hx:s.ev x=some (.c (.seg k sz lo n))) (hk:s.o[k]? = some (.arr e sz rows)) (hlo:lo+n≤rows.length) (hys:srcRows s.o sz (s.ev y)=some ys)
  (hK:PL P N p ops rest (S.put ⟨s.t,s.o.set k (.arr e sz (rows.take lo++ys.take (min ys.length n)++rows.drop (lo+min ys.length n)))⟩ o.dst (.c (.v (.int .i64 (min ys.length n:Nat))))) K):PL P N p ops (o :: rest) s K:=by
 refine mP (q:=.c (.v (.int .i64 (min ys.length n:Nat)))) (os:=s.o.set k (.arr e sz (rows.take lo++ys.take (min ys.length n)++rows.drop (lo+min ys.length n)))) hg (fun Γ a w hA=>?_) (by simp) hd hK;have hI:=hA.inv;have hn:=hI.m.n;obtain ⟨hu,hszo⟩:=fL hel;obtain ⟨i,hi,hisz⟩:=Option.map_eq_some_iff.1 hszo;obtain ⟨hyr,A,c,news,hzv,hrd,hnx⟩:=uC hI.m hys (fun q hq=>S.ev_ok hq hI);have hone:=ky hnx;obtain ⟨hkn,hseg⟩:=S.ev_ok hx hI;obtain ⟨A0,c0,hxv,hnc,hpos⟩:=hseg;have hro:=hI.m.ob k _ hk;obtain ⟨g1,g2,g3,g4⟩:=hro;obtain ⟨m,hm⟩:∃ m,min ys.length n=m:=⟨_,rfl⟩
 have hmy:m≤ys.length:=by rw [← hm];exact Nat.min_le_left _ _
 have hmn:m≤n:=by rw [← hm];exact Nat.min_le_right _ _
 have hnl:=hrd.1;rw [hm];have hexec:∀ (v':Value) (w':World),(Builtin.copy_ #[t,t'] o.type #[.slice A0 n c0,.slice A ys.length c]).run P w = .ok v' w' → (execOp a.eval o).run P w = .ok (.value v') w':=by
  intro v' w' hr;simp only [execOp,ho,resolve,invoke,builtin,Sem.run_bind,Sem.run_pure,Result.andThen_ok,List.map_toArray,List.map_cons,List.map_nil,hxv,hzv,hr]
 rcases Nat.eq_zero_or_pos m with h0|h0
 ·subst h0;have hr:(Builtin.copy_ #[t,t'] o.type #[.slice A0 n c0,.slice A ys.length c]).run P w = .ok (.int .i64 (0:Nat)) w:=by
   cases A0<;>cases A<;>simp [Builtin.copy_,run_underlying hu,sizeOf,typeInfo,hi,Builtin.lenOf,hm,Builtin.firstCells,loadCells,loadCellsFrom,storeCells,goInt]
  refine ⟨_,w,Γ,.inl (hexec _ _ hr),⟨rfl,rfl⟩,?_,⟨(Ext.refl No w).mono (fun _ h=>h.elim),fun _ h=>h,fun j hj hc=>.inl ⟨j,hj,hc,rfl⟩,fun _ h=>.inl h,fun _ _=>⟨rfl,rfl⟩⟩⟩;simp only [List.take_zero,List.append_nil,Nat.add_zero,List.take_append_drop];have hset:s.o.set k (.arr e sz rows)=s.o:=by
   obtain ⟨h1,h2⟩:=List.getElem?_eq_some_iff.1 hk;rw [← h2];exact List.set_getElem_self h1
  rw [hset];exact hI
 obtain ⟨hcp,hcl,rfl⟩:=hpos ac;obtain ⟨cur,q1,q2,q3,q4,q5⟩:=g4 hcp;obtain ⟨b',o',rfl,hb',hlt',hc'⟩:=hrd.2 ac;have hmsz:m * sz≤news.length:=by rw [hnl];exact Nat.mul_le_mul_right _ hmy
 have hfc:(Builtin.firstCells i.size m (.slice (some ⟨b',o',none⟩) ys.length c)).run P w = .ok (news.take (m * sz)).toArray w :=
  run_firstCells_some (P:=P) w i.size m ⟨b',o',none⟩ ys.length c (news.take (m * sz)) (by rw [List.length_take,hisz];omega) (fun j u hu=>by
   rw [Addr.add_lit];refine hc' j u ?_;rw [List.getElem?_take] at hu;split at hu
   ·exact hu
   ·cases hu)
 have htl:(news.take (m * sz)).length=m * sz:=by rw [List.length_take];omega
 have hfit:lo * sz+m * sz≤cur.size:=by rw [q2,← Nat.add_mul];exact Nat.mul_le_mul_right _ ac
 have hst:=run_storeCells_at P (Γ.β k) (lo * sz) e (news.take (m * sz)) 0 cur w q1 (by rw [htl];simpa using hfit) (fun v hv=>hone v (List.mem_of_mem_take hv));simp only [Nat.add_zero,htl] at hst;obtain ⟨w',hw'⟩:∃ w',w.setRow (Γ.β k) (cur.toList.take (lo * sz)++news.take (m * sz)++cur.toList.drop (lo * sz+m * sz)).toArray=w':=⟨_,rfl⟩
 rw [hw'] at hst;have hr:(Builtin.copy_ #[t,t'] o.type #[.slice (some ⟨Γ.β k,lo * sz,none⟩) n c0,.slice (some ⟨b',o',none⟩) ys.length c]).run P w = .ok (.int .i64 (m:Nat)) w':=by
  simp [Builtin.copy_,run_underlying hu,sizeOf,typeInfo,hi,Builtin.lenOf,hm,hfc,hst,goInt]
 have hgb:w.grownBy w' (some (Γ.β k)):=by rw [← hw'];exact ⟨rfl,rfl,rfl,by simp,fun j _ hk=>setRow_other w _ j _ (fun e=>hk (by rw [e]))⟩
 have hE:Ext (fun i=>i=Γ.β k) w w':=(Ext.refl _ w).grown hgb (fun k hk=>.inl (by cases hk;rfl));have hs:dC w Γ.I w' Γ.I:=⟨hE.size,fun i hi hl=>hE.block i hl fun h2=>hI.m.off k hkn hcp (h2 ▸ hi),fun i hi=>hi⟩
 have hrl:∀ r ∈ rows.take lo++ys.take m++rows.drop (lo+m),r.length=sz:=fun r hr=>by
  rcases List.mem_append.1 hr with hr|hr
  ·rcases List.mem_append.1 hr with hr|hr
   ·exact g1 r (List.mem_of_mem_take hr)
   ·exact hyr r (List.mem_of_mem_take hr)
  ·exact g1 r (List.mem_of_mem_drop hr)
 have hlen:(rows.take lo++ys.take m++rows.drop (lo+m)).length=rows.length:=by
  simp only [List.length_append,List.length_take,List.length_drop];omega
 have hcz:cur.toList.length=cur.size:=Array.length_toList;have hrs:rows.length * sz≤cur.size:=by rw [q2];exact Nat.mul_le_mul_right _ q3
 have e1:lo * sz+m * sz=(lo+m) * sz:=(Nat.add_mul _ _ _).symm;have hle2:(lo+m) * sz≤rows.length * sz:=Nat.mul_le_mul_right _ ac;refine ⟨_,w',Γ,.inl (hexec _ _ hr),⟨rfl,rfl⟩,⟨hI.size,hI.defers,fun i q hq=>?_,⟨by rw [hI.m.n,List.length_set],fun j o' ho'=>?_,hI.m.sep,hI.m.off,fun b hb=>Nat.lt_of_lt_of_le (hI.m.lt b hb) hE.size,hI.m.pins hs⟩⟩,⟨hE.mono fun i h1=>⟨k,hkn,hcp,h1.symm⟩,fun _ h=>h,fun j hj hc=>.inl ⟨j,hj,hc,rfl⟩,fun _ h=>.inl h,fun _ _=>⟨rfl,rfl⟩⟩⟩
 ·obtain ⟨i1,i2⟩:=hI.t i q hq;exact ⟨i1,i2.stay hs fun j hj=>⟨i2.lt j hj,rfl,rfl⟩⟩
 ·by_cases hjk:k=j
  ·subst hjk;have hkl:k < s.o.length:=by rw [← hI.m.n];exact hkn
   rw [List.getElem?_set_self hkl] at ho';cases ho';refine ⟨hrl,hsz,fun h=>absurd h ac,fun _=>⟨(cur.toList.take (lo * sz)++news.take (m * sz)++cur.toList.drop (lo * sz+m * sz)).toArray,by rw [← hw'];exact setRow_heap w _ cur _ e _ q1,?_,by rw [hlen];exact q3,q4,?_⟩⟩
   ·simp only [List.size_toArray,List.length_append,List.length_take,List.length_drop,hcz] at htl ⊢;omega
   ·rw [hlen];have hz:(cur.toList.take (lo * sz)++news.take (m * sz)++cur.toList.drop (lo * sz+m * sz)).take (rows.length * sz)=(cur.toList.take (rows.length * sz)).take (lo * sz)++news.take (m * sz)++(cur.toList.take (rows.length * sz)).drop ((lo+m) * sz):=by
     have hl1:(cur.toList.take (lo * sz)).length=lo * sz:=by rw [List.length_take,hcz];omega
     rw [List.take_append,List.take_of_length_le (by rw [List.length_append,hl1,htl];omega),List.length_append,hl1,htl,List.take_take,Nat.min_eq_left ac,e1,List.take_drop];congr 2;rw [show (lo+m) * sz+(rows.length * sz - (lo+m) * sz)=rows.length * sz by omega]
    show ay _ _ ((cur.toList.take (lo * sz)++news.take (m * sz)++cur.toList.drop (lo * sz+m * sz)).take (rows.length * sz));rw [hz,List.flatten_append,List.flatten_append,← df g1 ac,← df hyr hmy,← fM g1 ac];have q5':=q5.mono fun _ _=>RD.stay hs _ _
    have hnx':=hnx.mono fun _ _=>RD.stay hs _ _
    exact ((q5'.take _).append (hnx'.take _)).append (q5'.drop _)
  ·rw [List.getElem?_set_ne hjk] at ho';have hj:j < Γ.n:=by rw [hI.m.n];exact (List.getElem?_eq_some_iff.1 ho').1
   exact (hI.m.ob j o' ho').stay hs (fun i hi=>⟨hi,rfl,rfl⟩) hj fun hcj=>hE.block _ (bV hI.m hj hcj) fun h=>hjk (hI.m.sep k j hkn hj hcp hcj h.symm)
end
end
section
attribute [local irreducible] PL QL aL ah bg La aV PA
open IntWalk renaming iteOmega → O, toNatUp → U
set_option maxRecDepth 20000
structure Soc where
 ring:List Evt
 first:Nat
 n:Nat
 lost:Bool
def xY:Evt:=⟨0,0,0,⟨#[]⟩,⟨#[]⟩⟩
def Soc.send (s:Soc) (e:Evt):Soc × Int :=
 if s.n=s.ring.length then (⟨s.ring,s.first,s.n,true⟩,61) else (⟨s.ring.set ((s.first+s.n) % s.ring.length) e,s.first,s.n+1,s.lost⟩,0)
def Soc.recv (s:Soc) (m:Nat):Soc:=⟨s.ring,(s.first+min m s.n) % s.ring.length,s.n - min m s.n,s.lost⟩
def Soc.w (s:Soc):List Evt:=(List.range s.n).map fun i=>s.ring.getD ((s.first+i) % s.ring.length) default
structure Soc.ok (s:Soc):Prop where
 pos:0 < s.ring.length
 cap:s.ring.length≤256
 f:s.first < s.ring.length
 n:s.n≤s.ring.length
theorem Soc.wlen (s:Soc):s.w.length=s.n:=by unfold Soc.w;simp
theorem Soc.ok.send {s:Soc} (h:s.ok) (e:Evt):(s.send e).1.ok:=by
 unfold Soc.send;split
 ·exact ⟨h.pos,h.cap,h.f,h.n⟩
 ·have:=h.n;exact ⟨by simp only [List.length_set];exact h.pos,by simp only [List.length_set];exact h.cap,by simp only [List.length_set];exact h.f,by simp only [List.length_set];omega⟩
theorem Soc.ok.recv {s:Soc} (h:s.ok) (m:Nat):(s.recv m).ok:=⟨h.pos,h.cap,Nat.mod_lt _ h.pos,by have:=h.n;show s.n - min m s.n≤s.ring.length;omega⟩
theorem Ir {f i j c:Nat} (hi:i < c) (hj:j < c) (h:(f+i) % c=(f+j) % c):i=j:=by
 have h1:=Nat.mod_add_div (f+i) c;have h2:=Nat.mod_add_div (f+j) c;have h3:c * ((f+i) / c)+j=c * ((f+j) / c)+i:=ac;rcases Nat.lt_trichotomy ((f+i) / c) ((f+j) / c) with h4|h4|h4
 ·have:c * ((f+i) / c+1)≤c * ((f+j) / c):=Nat.mul_le_mul_left _ h4;rw [Nat.mul_add,Nat.mul_one] at this;omega
 ·rw [h4] at h3;omega
 ·have:c * ((f+j) / c+1)≤c * ((f+i) / c):=Nat.mul_le_mul_left _ h4;rw [Nat.mul_add,Nat.mul_one] at this;omega
theorem Soc.send_w {s:Soc} (h:s.ok) (e:Evt):((s.send e).2=0∧(s.send e).1.w=s.w++[e]∧(s.send e).1.lost=s.lost)∨((s.send e).2=61∧(s.send e).1.w=s.w∧(s.send e).1.lost=true):=by
 unfold Soc.send;split
 ·exact .inr ⟨rfl,rfl,rfl⟩
 ·rename_i hne;have hn:=h.n;have hp:=h.pos;refine .inl ⟨rfl,?_,rfl⟩;unfold Soc.w;simp only [List.length_set];rw [List.range_succ,List.map_append,List.map_singleton];congr 1
  ·refine List.map_congr_left fun i hi=>?_
   rw [List.mem_range] at hi;rw [List.getD_eq_getElem?_getD,List.getD_eq_getElem?_getD,List.getElem?_set_ne];intro he;have:=Ir ac ac he;omega
  ·rw [List.getD_eq_getElem?_getD,List.getElem?_set_self (Nat.mod_lt _ hp)];rfl
theorem Soc.recv_w {s:Soc} (h:s.ok) (m:Nat):(s.recv m).w=s.w.drop (min m s.n):=by
 have hn:=h.n;unfold Soc.w Soc.recv;simp only;refine List.ext_getElem (by simp) fun i h1 h2=>?_
 simp only [List.length_map,List.length_range] at h1;simp only [List.getElem_map,List.getElem_range,List.getElem_drop];congr 1;rw [Nat.mod_add_mod];congr 1;omega
theorem Soc.w_take {s:Soc} (h:s.ok) {m:Nat} (hm:m≤s.n):(s.ring.drop s.first).take (min (s.ring.length - s.first) m)++s.ring.take (m - min (s.ring.length - s.first) m)=s.w.take m:=by
 have hn:=h.n;have hf:=h.f;refine List.ext_getElem ?_ fun i h1 h2=>?_
 ·simp only [List.length_append,List.length_take,List.length_drop,Soc.wlen];omega
 ·simp only [List.length_append,List.length_take,List.length_drop] at h1;have hi:i < m:=ac;simp only [List.getElem_take,Soc.w,List.getElem_map,List.getElem_range];by_cases hlt:i < s.ring.length - s.first
  ·rw [List.getElem_append_left (by simp only [List.length_take,List.length_drop];omega),List.getElem_take,List.getElem_drop,List.getD_eq_getElem?_getD,Nat.mod_eq_of_lt ac,List.getElem?_eq_getElem ac];rfl
  ·rw [List.getElem_append_right (by simp only [List.length_take,List.length_drop];omega),List.getElem_take,List.getD_eq_getElem?_getD];have e1:(s.first+i) % s.ring.length=s.first+i - s.ring.length:=by
    rw [Nat.mod_eq_sub_mod ac,Nat.mod_eq_of_lt ac]
   have e2:i - ((s.ring.drop s.first).take (min (s.ring.length - s.first) m)).length=s.first+i - s.ring.length:=by simp only [List.length_take,List.length_drop];omega
   rw [e1,List.getElem?_eq_getElem ac];simp only [e2];rfl
def skB (k:Nat) (s:Soc):Ob:=.box 131 [.own k s.ring.length,.v (.int .i64 s.first),.v (.int .i64 s.n),.v (.bool s.lost)]
def skR (s:Soc):Ob:=.arr 69 5 (s.ring.map Evt.d)
attribute [push_cast] skB skR
def zEv:List Value:=[.int .i64 0,.int .i64 0,.int .i64 0,.string ⟨#[]⟩,.string ⟨#[]⟩]
theorem sr (c:Nat) (h1:1≤c) (h2:c≤256):ah prog 38 [.c (.v (.int .i64 c))] [] fun r os=>r = .two (.c (.ptr 0 0)) (.c (.v (.int .i64 0)))∧os=[skB 1 ⟨List.replicate c xY,0,0,false⟩,skR ⟨List.replicate c xY,0,0,false⟩]:=by
 refine aw func38 ntmps38 results38 ?_;have g1:¬ (c:Int) < 1:=ac;have g2:¬ (256:Int) < (c:Int):=ac;have hz:List.replicate c [D.v (.int .i64 0),D.v (.int .i64 0),D.v (.int .i64 0),D.v (.string ⟨#[]⟩),D.v (.string ⟨#[]⟩)]=(List.replicate c xY).map Evt.d:=by rw [List.map_replicate];rfl
 push_cast [O,U];have cB:aH 4 []:=trivial;repeat' ((first|(refine IC (e:=69) (sz:=5) (by':=56) (n:=c) (kx:=.i64) (kz:=.i64) zEv rfl (by push_cast [O,U,g1,g2]) (by simp [bp]) (by push_cast [O,U,g1,g2]) (by push_cast [O,U,g1,g2]) (by push_cast [O,U,zEv,List.map_cons,List.map_nil]) rfl af (by push_cast [O,U,g1,g2]) (by push_cast [O,U,g1,g2]) ac ac ?_;push_cast [O,U,zEv,List.map_cons,List.map_nil];refine an ?_)|refine ae ?_|refine pif ?_ ?_<;>intro h<;>try exact pN h)<;>push_cast [O,U,g1,g2])
 (refine K9 [1,0] ?_;push_cast [O,U,xY])
theorem zN (s:Soc):ah prog 70 [.c (.ptr 0 0)] [skB 1 s,skR s] fun r os=>r = .c (.v (.int .i64 s.n))∧os=[skB 1 s,skR s]:=by
 refine aw func70 ntmps70 results70 ?_;push_cast [O,U];repeat' ((first|refine au ?_|refine pif ?_ ?_<;>intro h<;>try exact pN h)<;>push_cast [O,U])
 exact am [0,1]
theorem li (s:Soc):ah prog 42 [.c (.ptr 0 0)] [skB 1 s,skR s] fun r os=>r = .c (.v (.bool s.lost))∧os=[skB 1 ⟨s.ring,s.first,s.n,false⟩,skR s]:=by
 refine aw func42 ntmps42 results42 ?_;push_cast [O,U];repeat' ((first|refine au ?_|refine pif ?_ ?_<;>intro h<;>try exact pN h)<;>push_cast [O,U])
 exact am [0,1]
set_option maxHeartbeats 4000000 in
theorem gg (s:Soc) (e:Evt) (h:s.ok):ah prog 40 [.c (.ptr 0 0),.agg e.e] [skB 1 s,skR s] fun r os=>r = .c (.v (.int .i64 ((s.send e).2)))∧os=[skB 1 (s.send e).1,skR (s.send e).1]:=by
 have hp:=h.pos;have hc:=h.cap;have hn:=h.n;have hf:=h.f;obtain ⟨X,hX⟩:∃ X,s.send e=X:=⟨_,rfl⟩
 rw [hX];unfold Soc.send at hX;refine aw func40 ntmps40 results40 ?_;push_cast [O,U];have cB:aH 5 []:=trivial;by_cases hq:s.n=s.ring.length
 ·rw [if_pos hq] at hX;subst hX;repeat' ((first|refine ae ?_|refine pif ?_ ?_<;>intro h<;>try exact pN h)<;>push_cast [O,U,hq])
  (refine K9 [0,1] ?_;push_cast [O,U,hq])
 ·rw [if_neg hq] at hX;subst hX;have hq':¬ (s.n:Int)=(s.ring.length:Int):=ac;have hm1:((s.first:Int)+(s.n:Int)) % (s.ring.length:Int)=(((s.first+s.n) % s.ring.length:Nat):Int):=by
   rw [Int.natCast_emod,Int.natCast_add]
  have hc0:¬ s.ring.length=0:=ac;have hc1:¬ (s.ring.length:Int)=0:=ac;have hml:(s.first+s.n) % s.ring.length < s.ring.length:=Nat.mod_lt _ hp;obtain ⟨j,hj⟩:∃ j,(s.first+s.n) % s.ring.length=j:=⟨_,rfl⟩
  rw [hj] at hm1 hml ⊢;have hs2:(s.ring.map Evt.d).set j e.d=(s.ring.set j e).map Evt.d:=by rw [List.map_set]
  repeat' ((first|(refine eQ 4 ?_)|refine ae ?_|refine pif ?_ ?_<;>intro h<;>try exact pN h)<;>push_cast [O,U,hq'])
  refine dd ?_;(refine av 5 [] ?_;refine aO aj ?_;simp only [aP,rA];refine pah 0 ?_;push_cast [O,U,  hm1,hc0,hc1];refine pah 1 ?_;push_cast [O,U,  hm1,hc0,hc1];refine pah 2 ?_;push_cast [O,U,  hm1,hc0,hc1];refine pah 4 ?_;push_cast [O,U,  hm1,hc0,hc1];refine pah 5 ?_;push_cast [O,U,  hm1,hc0,hc1];refine pah 6 ?_;push_cast [O,U,  hm1,hc0,hc1];refine pah 8 ?_;push_cast [O,U,  hm1,hc0,hc1];refine pah 9 ?_;push_cast [O,U,  hm1,hc0,hc1];refine pah 10 ?_;push_cast [O,U,  hm1,hc0,hc1];refine pah 13 ?_;push_cast [O,U,  hm1,hc0,hc1];refine pah 14 ?_;push_cast [O,U,  hm1,hc0,hc1];refine pah 15 ?_;push_cast [O,U,  hm1,hc0,hc1];apply ar;intro z32;apply ar;intro z31;apply ar;intro z26;apply ar;intro z30;apply ar;intro z22;apply ar;intro z27;apply ar;intro z28;apply ar;intro z29;apply ar;intro z16;apply ar;intro z17;apply ar;intro z19;apply ar;intro z21;apply ar;intro z23;apply ar;intro z24;apply ar;intro z25;apply ar;intro z8;apply ar;intro z10;apply ar;intro z11;apply ar;intro z13;apply ar;intro z15;apply ar;intro z18;apply ar;intro z20;apply ar;intro z4;apply ar;intro z6;apply ar;intro z7;apply ar;intro z9;apply ar;intro z12;apply ar;intro z14;apply ar;intro z1;apply ar;intro z2;apply ar;intro z3;apply ar;intro z5;refine pas [3,7,11,16,19] ?_;push_cast [O,U,  hm1,hc0,hc1];refine ⟨?_,?_,?_,?_,?_⟩;(focus (exact z1));(focus (exact z2));(focus (exact z3));(focus (refine pah 17 ?_;push_cast [O,U,  hm1,hc0,hc1];exact z4));(focus (exact z5));refine pas [3,7,11,16] ?_;push_cast [O,U,  hm1,hc0,hc1];refine ⟨?_,?_,?_,?_⟩;(focus (exact z9));(focus (exact z12));(focus (exact z14));(focus (refine pah 17 ?_;push_cast [O,U,  hm1,hc0,hc1];exact z15));refine pas [3,7,16,19] ?_;push_cast [O,U,  hm1,hc0,hc1];refine ⟨?_,?_,?_,?_⟩;(focus (exact z7));(focus (refine pah 12 ?_;push_cast [O,U,  hm1,hc0,hc1];exact z10));(focus (refine pah 17 ?_;push_cast [O,U,  hm1,hc0,hc1];exact z13));(focus (refine paw z14 ?_;refine weak_fg ?_;push_cast [O,U,  hm1,hc0,hc1]));refine pas [3,11,16,19] ?_;push_cast [O,U,  hm1,hc0,hc1];refine ⟨?_,?_,?_,?_⟩;(focus (exact z6));(focus (refine pah 12 ?_;push_cast [O,U,  hm1,hc0,hc1];refine paw z10 ?_;refine weak_fg ?_;push_cast [O,U,  hm1,hc0,hc1]));(focus (refine pah 17 ?_;push_cast [O,U,  hm1,hc0,hc1];exact z11));(focus (refine paw z12 ?_;refine weak_fg ?_;push_cast [O,U,  hm1,hc0,hc1]));refine pas [7,11,16,19] ?_;push_cast [O,U,  hm1,hc0,hc1];refine ⟨?_,?_,?_,?_⟩;(focus (refine paw z6 ?_;refine weak_fg ?_;push_cast [O,U,  hm1,hc0,hc1]));(focus (refine paw z7 ?_;refine weak_fg ?_;push_cast [O,U,  hm1,hc0,hc1]));(focus (refine pah 17 ?_;push_cast [O,U,  hm1,hc0,hc1];exact z8));(focus (refine paw z9 ?_;refine weak_fg ?_;push_cast [O,U,  hm1,hc0,hc1]));refine pas [3,7,16] ?_;push_cast [O,U,  hm1,hc0,hc1];refine ⟨?_,?_,?_⟩;(focus (exact z20));(focus (refine pah 12 ?_;push_cast [O,U,  hm1,hc0,hc1];exact z23));(focus (refine pah 17 ?_;push_cast [O,U,  hm1,hc0,hc1];exact z25));refine pas [3,11,16] ?_;push_cast [O,U,  hm1,hc0,hc1];refine ⟨?_,?_,?_⟩;(focus (exact z18));(focus (refine pah 12 ?_;push_cast [O,U,  hm1,hc0,hc1];refine paw z23 ?_;refine weak_fg ?_;push_cast [O,U,  hm1,hc0,hc1]));(focus (refine pah 17 ?_;push_cast [O,U,  hm1,hc0,hc1];exact z24));refine pas [7,11,16] ?_;push_cast [O,U,  hm1,hc0,hc1];refine ⟨?_,?_,?_⟩;(focus (refine paw z18 ?_;refine weak_fg ?_;push_cast [O,U,  hm1,hc0,hc1]));(focus (refine paw z20 ?_;refine weak_fg ?_;push_cast [O,U,  hm1,hc0,hc1]));(focus (refine pah 17 ?_;push_cast [O,U,  hm1,hc0,hc1];exact z21));refine pas [7,16,19] ?_;push_cast [O,U,  hm1,hc0,hc1];refine ⟨?_,?_,?_⟩;(focus (refine pah 12 ?_;push_cast [O,U,  hm1,hc0,hc1];exact z16));(focus (refine pah 17 ?_;push_cast [O,U,  hm1,hc0,hc1];exact z19));(focus (refine paw z20 ?_;refine weak_fg ?_;push_cast [O,U,  hm1,hc0,hc1]));refine pas [11,16,19] ?_;push_cast [O,U,  hm1,hc0,hc1];refine ⟨?_,?_,?_⟩;(focus (refine pah 12 ?_;push_cast [O,U,  hm1,hc0,hc1];refine paw z16 ?_;refine weak_fg ?_;push_cast [O,U,  hm1,hc0,hc1]));(focus (refine pah 17 ?_;push_cast [O,U,  hm1,hc0,hc1];exact z17));(focus (refine paw z18 ?_;refine weak_fg ?_;push_cast [O,U,  hm1,hc0,hc1]));refine pas [3,7,11,19] ?_;push_cast [O,U,  hm1,hc0,hc1];refine ⟨paw z8 ?_,paw z11 ?_,paw z13 ?_,paw z15 ?_⟩<;>(refine weak_fg ?_;push_cast [O,U,  hm1,hc0,hc1]);refine pas [7,16] ?_;push_cast [O,U,  hm1,hc0,hc1];refine ⟨?_,?_⟩;(focus (refine pah 12 ?_;push_cast [O,U,  hm1,hc0,hc1];exact z27));(focus (refine pah 17 ?_;push_cast [O,U,  hm1,hc0,hc1];exact z29));refine pas [11,16] ?_;push_cast [O,U,  hm1,hc0,hc1];refine ⟨?_,?_⟩;(focus (refine pah 12 ?_;push_cast [O,U,  hm1,hc0,hc1];refine paw z27 ?_;refine weak_fg ?_;push_cast [O,U,  hm1,hc0,hc1]));(focus (refine pah 17 ?_;push_cast [O,U,  hm1,hc0,hc1];exact z28));refine pas [3,7,11] ?_;push_cast [O,U,  hm1,hc0,hc1];refine ⟨paw z21 ?_,paw z24 ?_,paw z25 ?_⟩<;>(refine weak_fg ?_;push_cast [O,U,  hm1,hc0,hc1]);refine pas [3,7,19] ?_;push_cast [O,U,  hm1,hc0,hc1];refine ⟨?_,?_,?_⟩;(focus (refine paw z19 ?_;refine weak_fg ?_;push_cast [O,U,  hm1,hc0,hc1]));(focus (refine pah 12 ?_;push_cast [O,U,  hm1,hc0,hc1];refine pah 18 ?_;push_cast [O,U,  hm1,hc0,hc1];exact z22));(focus (refine paw z25 ?_;refine weak_fg ?_;push_cast [O,U,  hm1,hc0,hc1]));refine pas [3,11,19] ?_;push_cast [O,U,  hm1,hc0,hc1];refine ⟨?_,?_,?_⟩;(focus (refine paw z17 ?_;refine weak_fg ?_;push_cast [O,U,  hm1,hc0,hc1]));(focus (refine pah 12 ?_;push_cast [O,U,  hm1,hc0,hc1];refine pah 18 ?_;push_cast [O,U,  hm1,hc0,hc1];refine paw z22 ?_;refine weak_fg ?_;push_cast [O,U,  hm1,hc0,hc1]));(focus (refine paw z24 ?_;refine weak_fg ?_;push_cast [O,U,  hm1,hc0,hc1]));refine pas [3,16,19] ?_;push_cast [O,U,  hm1,hc0,hc1];refine ⟨?_,?_,?_⟩;(focus (refine paw z16 ?_;refine weak_fg ?_;push_cast [O,U,  hm1,hc0,hc1]));(focus (refine pah 17 ?_;push_cast [O,U,  hm1,hc0,hc1];refine pah 18 ?_;push_cast [O,U,  hm1,hc0,hc1];refine paw z22 ?_;refine weak_fg ?_;push_cast [O,U,  hm1,hc0,hc1]));(focus (refine paw z23 ?_;refine weak_fg ?_;push_cast [O,U,  hm1,hc0,hc1]));refine pas [7,11,19] ?_;push_cast [O,U,  hm1,hc0,hc1];refine ⟨paw z17 ?_,paw z19 ?_,paw z21 ?_⟩<;>(refine weak_fg ?_;push_cast [O,U,  hm1,hc0,hc1]);refine pas [3,7] ?_;push_cast [O,U,  hm1,hc0,hc1];refine ⟨?_,?_⟩;(focus (refine paw z29 ?_;refine weak_fg ?_;push_cast [O,U,  hm1,hc0,hc1]));(focus (refine pah 12 ?_;push_cast [O,U,  hm1,hc0,hc1];refine pah 18 ?_;push_cast [O,U,  hm1,hc0,hc1];exact z30));refine pas [3,11] ?_;push_cast [O,U,  hm1,hc0,hc1];refine ⟨?_,?_⟩;(focus (refine paw z28 ?_;refine weak_fg ?_;push_cast [O,U,  hm1,hc0,hc1]));(focus (refine pah 12 ?_;push_cast [O,U,  hm1,hc0,hc1];refine pah 18 ?_;push_cast [O,U,  hm1,hc0,hc1];refine paw z30 ?_;refine weak_fg ?_;push_cast [O,U,  hm1,hc0,hc1]));refine pas [3,16] ?_;push_cast [O,U,  hm1,hc0,hc1];refine ⟨?_,?_⟩;(focus (refine paw z27 ?_;refine weak_fg ?_;push_cast [O,U,  hm1,hc0,hc1]));(focus (refine pah 17 ?_;push_cast [O,U,  hm1,hc0,hc1];refine pah 18 ?_;push_cast [O,U,  hm1,hc0,hc1];refine paw z30 ?_;refine weak_fg ?_;push_cast [O,U,  hm1,hc0,hc1]));refine pas [7,11] ?_;push_cast [O,U,  hm1,hc0,hc1];refine ⟨paw z28 ?_,paw z29 ?_⟩<;>(refine weak_fg ?_;push_cast [O,U,  hm1,hc0,hc1]);refine pas [7,19] ?_;push_cast [O,U,  hm1,hc0,hc1];refine ⟨?_,?_⟩;(focus (refine pah 12 ?_;push_cast [O,U,  hm1,hc0,hc1];refine pah 18 ?_;push_cast [O,U,  hm1,hc0,hc1];exact z26));(focus (refine paw z29 ?_;refine weak_fg ?_;push_cast [O,U,  hm1,hc0,hc1]));refine pas [11,19] ?_;push_cast [O,U,  hm1,hc0,hc1];refine ⟨?_,?_⟩;(focus (refine pah 12 ?_;push_cast [O,U,  hm1,hc0,hc1];refine pah 18 ?_;push_cast [O,U,  hm1,hc0,hc1];refine paw z26 ?_;refine weak_fg ?_;push_cast [O,U,  hm1,hc0,hc1]));(focus (refine paw z28 ?_;refine weak_fg ?_;push_cast [O,U,  hm1,hc0,hc1]));refine pas [16,19] ?_;push_cast [O,U,  hm1,hc0,hc1];refine ⟨?_,?_⟩;(focus (refine pah 17 ?_;push_cast [O,U,  hm1,hc0,hc1];refine pah 18 ?_;push_cast [O,U,  hm1,hc0,hc1];refine paw z26 ?_;refine weak_fg ?_;push_cast [O,U,  hm1,hc0,hc1]));(focus (refine paw z27 ?_;refine weak_fg ?_;push_cast [O,U,  hm1,hc0,hc1]));refine pas [7] ?_;push_cast [O,U,  hm1,hc0,hc1];(focus (refine pah 12 ?_;push_cast [O,U,  hm1,hc0,hc1];refine pah 18 ?_;push_cast [O,U,  hm1,hc0,hc1];refine pah 20 ?_;push_cast [O,U,  hm1,hc0,hc1];exact z31));refine pas [11] ?_;push_cast [O,U,  hm1,hc0,hc1];(focus (refine pah 12 ?_;push_cast [O,U,  hm1,hc0,hc1];refine pah 18 ?_;push_cast [O,U,  hm1,hc0,hc1];refine pah 20 ?_;push_cast [O,U,  hm1,hc0,hc1];refine paw z31 ?_;refine weak_fg ?_;push_cast [O,U,  hm1,hc0,hc1]));refine pas [16] ?_;push_cast [O,U,  hm1,hc0,hc1];(focus (refine pah 17 ?_;push_cast [O,U,  hm1,hc0,hc1];refine pah 18 ?_;push_cast [O,U,  hm1,hc0,hc1];refine pah 20 ?_;push_cast [O,U,  hm1,hc0,hc1];refine paw z31 ?_;refine weak_fg ?_;push_cast [O,U,  hm1,hc0,hc1]));refine pas [3,19] ?_;push_cast [O,U,  hm1,hc0,hc1];refine ⟨paw z26 ?_,paw z30 ?_⟩<;>(refine weak_fg ?_;push_cast [O,U,  hm1,hc0,hc1]);refine pas [3] ?_;push_cast [O,U,  hm1,hc0,hc1];(focus (refine pah 20 ?_;push_cast [O,U,  hm1,hc0,hc1];refine paw z31 ?_;refine weak_fg ?_;push_cast [O,U,  hm1,hc0,hc1]));refine pas [19] ?_;push_cast [O,U,  hm1,hc0,hc1];(focus (refine pah 20 ?_;push_cast [O,U,  hm1,hc0,hc1];refine paw z31 ?_;refine weak_fg ?_;push_cast [O,U,  hm1,hc0,hc1]));refine pas [21] ?_;push_cast [O,U,  hm1,hc0,hc1];refine paw z32 (ao 5 [] _);push_cast [O,U,  hm1,hc0,hc1];refine pad ?_;push_cast [O,U,  hm1,hc0,hc1]);(refine K9 [0,1] ?_;push_cast [O,U,hs2,List.length_set])
theorem JU {P:Program} {N p:Nat} {ops:Array Oper} {rest:List Oper} {o:Oper} {s:S} {K:S → Prop} {t t' e:TypeId} {x y:Operand} {sz k n:Nat} {rows ys:List (List D)} (i:Nat) (hi:s.get i=some (.c (.own k n))) (ho:o.op = .call { callee:=.builtin .copy,args := #[x,y],argTypes := #[t,t'] }) (hg:gd ops ⟨(i,.c (.seg k sz 0 n)) :: s.t,s.o⟩ o.guard=some true) (hd:bp N o.dst)
  (hel:cY P t=some (e,sz)) (hsz:0 < sz) (hx:(⟨(i,.c (.seg k sz 0 n)) :: s.t,s.o⟩:S).ev x=some (.c (.seg k sz 0 n))) (hk:s.o[k]? = some (.arr e sz rows)) (hlo:n≤rows.length) (hys:srcRows s.o sz ((⟨(i,.c (.seg k sz 0 n)) :: s.t,s.o⟩:S).ev y)=some ys)
  (hK:PL P N p ops rest (S.put ⟨(i,.c (.seg k sz 0 n)) :: s.t,s.o.set k (.arr e sz (ys.take (min ys.length n)++rows.drop (min ys.length n)))⟩ o.dst (.c (.v (.int .i64 (min ys.length n:Nat))))) K):PL P N p ops (o :: rest) s K:=by
 refine bX (wx i sz hi) (ID ho hg hd hel hsz hx hk ac hys ?_);rw [List.take_zero,List.nil_append,Nat.zero_add];exact hK
theorem Gj {P:Program} {N p:Nat} {ops:Array Oper} {rest:List Oper} {o:Oper} {s:S} {K:S → Prop} {t t' e:TypeId} {x y:Operand} {sz k lo n:Nat} {rows ys:List (List D)} (b:Nat) (R:List (List D)) (ho:o.op = .call { callee:=.builtin .copy,args := #[x,y],argTypes := #[t,t'] }) (hg:gd ops s o.guard=some true) (hd:bp N o.dst)
  (hel:cY P t=some (e,sz)) (hsz:0 < sz) (hx:s.ev x=some (.c (.seg k sz lo n))) (hk:s.o[k]? = some (.arr e sz rows)) (hlo:lo+n≤rows.length) (hys:srcRows s.o sz (s.ev y)=some ys) (hb:min ys.length n=b) (hR:rows.take lo++ys.take b++rows.drop (lo+b)=R)
  (hK:PL P N p ops rest (S.put ⟨s.t,s.o.set k (.arr e sz R)⟩ o.dst (.c (.v (.int .i64 b)))) K):PL P N p ops (o :: rest) s K:=by
 subst hb hR;exact ID ho hg hd hel hsz hx hk hlo hys hK
theorem vE {P:Program} {N p:Nat} {ops:Array Oper} {rest:List Oper} {o:Oper} {s:S} {K:S → Prop} {t t' e:TypeId} {x y:Operand} {sz k n:Nat} {rows ys:List (List D)} (i b:Nat) (R:List (List D)) (hi:s.get i=some (.c (.own k n))) (ho:o.op = .call { callee:=.builtin .copy,args := #[x,y],argTypes := #[t,t'] }) (hg:gd ops ⟨(i,.c (.seg k sz 0 n)) :: s.t,s.o⟩ o.guard=some true) (hd:bp N o.dst)
  (hel:cY P t=some (e,sz)) (hsz:0 < sz) (hx:(⟨(i,.c (.seg k sz 0 n)) :: s.t,s.o⟩:S).ev x=some (.c (.seg k sz 0 n))) (hk:s.o[k]? = some (.arr e sz rows)) (hlo:n≤rows.length) (hys:srcRows s.o sz ((⟨(i,.c (.seg k sz 0 n)) :: s.t,s.o⟩:S).ev y)=some ys) (hb:min ys.length n=b) (hR:ys.take b++rows.drop b=R)
  (hK:PL P N p ops rest (S.put ⟨(i,.c (.seg k sz 0 n)) :: s.t,s.o.set k (.arr e sz R)⟩ o.dst (.c (.v (.int .i64 b)))) K):PL P N p ops (o :: rest) s K:=by
 subst hb hR;exact JU i hi ho hg hd hel hsz hx hk hlo hys hK
set_option maxHeartbeats 8000000 in
theorem lj (s:Soc) (most:Nat) (h:s.ok) (hmo:most≤1000000):ah prog 41 [.c (.ptr 0 0),.c (.v (.int .i64 most))] [skB 1 s,skR s] fun r os=>r = .c (.sl 5 ((s.w.take (min most s.n)).map Evt.d))∧os=[skB 1 (s.recv most),skR (s.recv most)]:=by
 have hp:=h.pos;have hc:=h.cap;have hn:=h.n;have hf:=h.f;have hwt:=Soc.w_take h (m:=min most s.n) (Nat.min_le_right _ _);unfold Soc.recv;obtain ⟨m,hm⟩:∃ m,min most s.n=m:=⟨_,rfl⟩
 rw [hm] at hwt ⊢;obtain ⟨j,hj⟩:∃ j,(s.first+m) % s.ring.length=j:=⟨_,rfl⟩
 rw [hj];have hmn:m≤s.n:=by rw [← hm];exact Nat.min_le_right _ _
 obtain ⟨W,hW⟩:∃ W,s.w.take m=W:=⟨_,rfl⟩
 rw [hW] at hwt ⊢;have g0:¬ (most:Int) < 0:=ac;have hmin:(if (s.n:Int) < (most:Int) then (s.n:Int) else (most:Int))=(m:Int):=by split<;>omega
 refine aw func41 ntmps41 results41 ?_;obtain ⟨Z,hZ⟩:∃ Z,List.replicate m [D.v (.int .i64 0),D.v (.int .i64 0),D.v (.int .i64 0),D.v (.string ⟨#[]⟩),D.v (.string ⟨#[]⟩)]=Z:=⟨_,rfl⟩
 have hZl:Z.length=m:=by rw [← hZ,List.length_replicate]
 obtain ⟨a,ha⟩:∃ a,min (s.ring.length - s.first) m=a:=⟨_,rfl⟩
 rw [ha] at hwt;obtain ⟨L1,hL1⟩:∃ L1,(s.ring.drop s.first).take a=L1:=⟨_,rfl⟩
 rw [hL1] at hwt;have hL1l:L1.length=a:=by rw [← hL1,List.length_take,List.length_drop];omega
 have ham:a≤m:=ac;push_cast [O,U];have cB:aH 7 []:=trivial;repeat' ((first|(refine IC (e:=69) (sz:=5) (by':=56) (n:=m) (kx:=.i64) (kz:=.i64) zEv rfl (by push_cast [O,U,g0,hmin]) (by simp [bp]) (by push_cast [O,U,g0,hmin]) (by push_cast [O,U,g0,hmin]) (by push_cast [O,U,zEv,List.map_cons,List.map_nil]) rfl af (by push_cast [O,U,hmin]) (by push_cast [O,U,hmin]) ac ac ?_;push_cast [O,U,zEv,List.map_cons,List.map_nil,hZ];refine an ?_)|(refine eQ 2 ?_)|refine ae ?_|refine pif ?_ ?_<;>intro h<;>try exact pN h)<;>push_cast [O,U,g0,hmin])
 refine dd ?_;have htk:List.take s.ring.length (s.ring.map Evt.d)=s.ring.map Evt.d:=List.take_of_length_le (by rw [List.length_map];exact Nat.le_refl _);have hdr:List.drop s.first (s.ring.map Evt.d)=(s.ring.drop s.first).map Evt.d:=by rw [List.map_drop]
 have hls:List.take (s.ring.length - s.first) ((s.ring.drop s.first).map Evt.d)=(s.ring.drop s.first).map Evt.d:=List.take_of_length_le (by rw [List.length_map,List.length_drop];exact Nat.le_refl _);have hsl:s.first+(s.ring.length - s.first)=s.ring.length:=ac;have hR2:((s.ring.drop s.first).map Evt.d).take a++Z.drop a=L1.map Evt.d++Z.drop a:=by rw [← List.map_take,hL1]
 have hb2:min ((s.ring.drop s.first).map Evt.d).length m=a:=by rw [List.length_map,List.length_drop];exact ha
 have hf1:(s.first:Int)≤(s.ring.length:Int):=ac;obtain ⟨R1,hR1⟩:∃ R1,L1.map Evt.d++Z.drop a=R1:=⟨_,rfl⟩
 rw [hR1] at hR2;have hR1l:R1.length=m:=by rw [← hR1,List.length_append,List.length_map,List.length_drop,hL1l,hZl];omega
 have hW1:R1.take a++(s.ring.map Evt.d).take (m - a)++R1.drop (a+(m - a))=W.map Evt.d:=by
  rw [List.drop_of_length_le (by rw [hR1l];omega),List.append_nil,← hR1,List.take_left' (by rw [List.length_map];exact hL1l),← hwt,List.map_append,List.map_take]
 have hb3:min (s.ring.map Evt.d).length (m - a)=m - a:=by rw [List.length_map];omega
 have hc0:¬ s.ring.length=0:=ac;have hc1:¬ (s.ring.length:Int)=0:=ac;have hsub:(s.n:Int) - (m:Int)=((s.n - m:Nat):Int):=ac;have ham1:(a:Int)≤(m:Int):=ac;have hWl:(W.map Evt.d).length=m:=by rw [List.length_map,← hW,List.length_take,Soc.wlen];omega
 have hWl2:W.length=m:=by rw [← hWl,List.length_map]
 have htw:List.take m (W.map Evt.d)=W.map Evt.d:=List.take_of_length_le (by rw [hWl];exact Nat.le_refl _);by_cases hz:s.first=0
 ·have hz2:(s.ring.drop s.first).map Evt.d=s.ring.map Evt.d:=by rw [hz,List.drop_zero]
  rw [hz2] at hR2 hb2;(refine av 7 [] ?_;refine aO aj ?_;simp only [aP,rA];refine pah 0 ?_;push_cast [O,U,  hz];refine pah 1 ?_;push_cast [O,U,  hz];refine pah 2 ?_;push_cast [O,U,  hz];refine pah 3 ?_;push_cast [O,U,  hz];refine pah 5 ?_;push_cast [O,U,  hz];refine pah 6 ?_;push_cast [O,U,  hz];refine pah 7 ?_;push_cast [O,U,  hz];apply ar;intro z4;apply ar;intro z3;apply ar;intro z1;apply ar;intro z2;refine pas [4,8] ?_;push_cast [O,U,  hz];refine ⟨z1,z2⟩;refine pas [4] ?_;push_cast [O,U,  hz];(focus (refine pah 9 ?_;push_cast [O,U,  hz];exact z3));refine pas [8] ?_;push_cast [O,U,  hz];(focus (refine pah 9 ?_;push_cast [O,U,  hz];refine paw z3 ?_;refine weak_fg ?_;push_cast [O,U,  hz]));refine pas [10] ?_;push_cast [O,U,  hz];(focus ((refine vE (e:=69) (sz:=5) (k:=2) (ys:=s.ring.map Evt.d) 15 a R1 (by push_cast [O,U,  hz]) rfl (by push_cast [O,U,  hz]) (by simp [bp]) (by push_cast [O,U,  hz]) af (by push_cast [O,U,  hz]) (by push_cast [O,U,  hz]) (by rw [hZl];exact Nat.le_refl _) (by push_cast [O,U,htk]) hb2 hR2 ?_;push_cast [O,U,  hz];refine an ?_;push_cast [O,U,  hz]);refine pah 11 ?_;push_cast [O,U,  hz];exact paw z4 (ao 7 [] _)));push_cast [O,U,  hz];refine pad ?_;push_cast [O,U,  hz]);have hm1:(m:Int) % (s.ring.length:Int)=(j:Int):=by rw [← hj,hz,Nat.zero_add,Int.natCast_emod]
  by_cases ha0:a=0
  ·have hm0:m=0:=ac;have hW0:(s.ring.map Evt.d).take 0++R1.drop 0=W.map Evt.d:=by rw [← hW1,ha0,hm0];simp
   (refine av 7 [] ?_;refine aO aj ?_;simp only [aP,rA];refine pah 0 ?_;push_cast [O,U,  ha0];refine pah 1 ?_;push_cast [O,U,  ha0];refine pah 2 ?_;push_cast [O,U,  ha0];refine pah 3 ?_;push_cast [O,U,  ha0];refine pah 4 ?_;push_cast [O,U,  ha0];refine pah 5 ?_;push_cast [O,U,  ha0];apply ar;intro z2;apply ar;intro z1;refine pas [6] ?_;push_cast [O,U,  ha0];refine z1;refine pas [7] ?_;push_cast [O,U,  ha0];(focus ((refine vE (e:=69) (sz:=5) (k:=2) (n:=m) (ys:=s.ring.map Evt.d) 28 0 (W.map Evt.d) (by push_cast [O,U,  ha0]) rfl (by push_cast [O,U,  ha0]) (by simp [bp]) (by push_cast [O,U,  ha0]) af (by push_cast [O,U,  ha0]) (by push_cast [O,U,  ha0]) (by rw [hR1l];exact Nat.le_refl _) (by push_cast [O,U,htk]) (by rw [hm0];exact Nat.min_zero _) hW0 ?_;push_cast [O,U,  ha0];refine an ?_;push_cast [O,U,  ha0]);exact paw z2 (ao 7 [] _)));push_cast [O,U,  ha0];refine pad ?_;push_cast [O,U,  ha0]);refine aF (bQ 2 (Nat.le_refl 2)) ?_;push_cast [O,U,htw,hWl];(refine av 7 [] ?_;refine aO aj ?_;simp only [aP,rA];refine pah 0 ?_;push_cast [O,U,  hm1,hc0,hc1,hWl2,hsub];refine pah 1 ?_;push_cast [O,U,  hm1,hc0,hc1,hWl2,hsub];refine pah 2 ?_;push_cast [O,U,  hm1,hc0,hc1,hWl2,hsub];refine pah 3 ?_;push_cast [O,U,  hm1,hc0,hc1,hWl2,hsub];refine pah 5 ?_;push_cast [O,U,  hm1,hc0,hc1,hWl2,hsub];refine pah 6 ?_;push_cast [O,U,  hm1,hc0,hc1,hWl2,hsub];refine pah 8 ?_;push_cast [O,U,  hm1,hc0,hc1,hWl2,hsub];refine pah 9 ?_;push_cast [O,U,  hm1,hc0,hc1,hWl2,hsub];refine pah 10 ?_;push_cast [O,U,  hm1,hc0,hc1,hWl2,hsub];apply ar;intro z4;apply ar;intro z3;apply ar;intro z1;apply ar;intro z2;refine pas [4,11] ?_;push_cast [O,U,  hm1,hc0,hc1,hWl2,hsub];refine ⟨?_,?_⟩;(focus (refine pah 7 ?_;push_cast [O,U,  hm1,hc0,hc1,hWl2,hsub];exact z1));(focus (refine pah 12 ?_;push_cast [O,U,  hm1,hc0,hc1,hWl2,hsub];exact z2));refine pas [4] ?_;push_cast [O,U,  hm1,hc0,hc1,hWl2,hsub];(focus (refine pah 7 ?_;push_cast [O,U,  hm1,hc0,hc1,hWl2,hsub];refine pah 13 ?_;push_cast [O,U,  hm1,hc0,hc1,hWl2,hsub];refine pah 14 ?_;push_cast [O,U,  hm1,hc0,hc1,hWl2,hsub];refine pah 15 ?_;push_cast [O,U,  hm1,hc0,hc1,hWl2,hsub];exact z3));refine pas [11] ?_;push_cast [O,U,  hm1,hc0,hc1,hWl2,hsub];(focus (refine pah 12 ?_;push_cast [O,U,  hm1,hc0,hc1,hWl2,hsub];refine pah 13 ?_;push_cast [O,U,  hm1,hc0,hc1,hWl2,hsub];refine pah 14 ?_;push_cast [O,U,  hm1,hc0,hc1,hWl2,hsub];refine pah 15 ?_;push_cast [O,U,  hm1,hc0,hc1,hWl2,hsub];refine paw z3 ?_;refine weak_fg ?_;push_cast [O,U,  hm1,hc0,hc1,hWl2,hsub]));refine pas [16] ?_;push_cast [O,U,  hm1,hc0,hc1,hWl2,hsub];refine paw z4 (ao 7 [] _);push_cast [O,U,  hm1,hc0,hc1,hWl2,hsub];refine pad ?_;push_cast [O,U,  hm1,hc0,hc1,hWl2,hsub]);repeat' ((first|refine ae ?_|refine pif ?_ ?_<;>intro h<;>try exact pN h)<;>push_cast [O,U,hsub,hWl2])
   (refine K9 [0,1] ?_;push_cast [O,U,hsub,htw])
  ·have ha0':¬ (a:Int)=0:=ac;(refine av 7 [] ?_;refine aO aj ?_;simp only [aP,rA];refine pah 0 ?_;push_cast [O,U,  ha0,ha0',ham1];refine pah 1 ?_;push_cast [O,U,  ha0,ha0',ham1];refine pah 2 ?_;push_cast [O,U,  ha0,ha0',ham1];refine pah 3 ?_;push_cast [O,U,  ha0,ha0',ham1];refine pah 4 ?_;push_cast [O,U,  ha0,ha0',ham1];refine pah 5 ?_;push_cast [O,U,  ha0,ha0',ham1];apply ar;intro z2;apply ar;intro z1;refine pas [6] ?_;push_cast [O,U,  ha0,ha0',ham1];refine z1;refine pas [7] ?_;push_cast [O,U,  ha0,ha0',ham1];(focus ((refine Gj (e:=69) (sz:=5) (k:=2) (rows:=R1) (ys:=s.ring.map Evt.d) (m - a) (W.map Evt.d) rfl (by push_cast [O,U,  ha0,ha0',ham1]) (by simp [bp]) (by push_cast [O,U,  ha0,ha0',ham1]) af (by push_cast [O,U,  ha0,ha0',ham1]) (by push_cast [O,U,  ha0,ha0',ham1]) (by rw [hR1l];omega) (by push_cast [O,U,htk]) hb3 hW1 ?_;push_cast [O,U,  ha0,ha0',ham1];refine an ?_;push_cast [O,U,  ha0,ha0',ham1]);exact paw z2 (ao 7 [] _)));push_cast [O,U,  ha0,ha0',ham1];refine pad ?_;push_cast [O,U,  ha0,ha0',ham1]);refine aF (bQ 2 (Nat.le_refl 2)) ?_;push_cast [O,U,htw,hWl];(refine av 7 [] ?_;refine aO aj ?_;simp only [aP,rA];refine pah 0 ?_;push_cast [O,U,  hm1,hc0,hc1,hWl2,hsub];refine pah 1 ?_;push_cast [O,U,  hm1,hc0,hc1,hWl2,hsub];refine pah 2 ?_;push_cast [O,U,  hm1,hc0,hc1,hWl2,hsub];refine pah 3 ?_;push_cast [O,U,  hm1,hc0,hc1,hWl2,hsub];refine pah 5 ?_;push_cast [O,U,  hm1,hc0,hc1,hWl2,hsub];refine pah 6 ?_;push_cast [O,U,  hm1,hc0,hc1,hWl2,hsub];refine pah 8 ?_;push_cast [O,U,  hm1,hc0,hc1,hWl2,hsub];refine pah 9 ?_;push_cast [O,U,  hm1,hc0,hc1,hWl2,hsub];refine pah 10 ?_;push_cast [O,U,  hm1,hc0,hc1,hWl2,hsub];apply ar;intro z4;apply ar;intro z3;apply ar;intro z1;apply ar;intro z2;refine pas [4,11] ?_;push_cast [O,U,  hm1,hc0,hc1,hWl2,hsub];refine ⟨?_,?_⟩;(focus (refine pah 7 ?_;push_cast [O,U,  hm1,hc0,hc1,hWl2,hsub];exact z1));(focus (refine pah 12 ?_;push_cast [O,U,  hm1,hc0,hc1,hWl2,hsub];exact z2));refine pas [4] ?_;push_cast [O,U,  hm1,hc0,hc1,hWl2,hsub];(focus (refine pah 7 ?_;push_cast [O,U,  hm1,hc0,hc1,hWl2,hsub];refine pah 13 ?_;push_cast [O,U,  hm1,hc0,hc1,hWl2,hsub];refine pah 14 ?_;push_cast [O,U,  hm1,hc0,hc1,hWl2,hsub];refine pah 15 ?_;push_cast [O,U,  hm1,hc0,hc1,hWl2,hsub];exact z3));refine pas [11] ?_;push_cast [O,U,  hm1,hc0,hc1,hWl2,hsub];(focus (refine pah 12 ?_;push_cast [O,U,  hm1,hc0,hc1,hWl2,hsub];refine pah 13 ?_;push_cast [O,U,  hm1,hc0,hc1,hWl2,hsub];refine pah 14 ?_;push_cast [O,U,  hm1,hc0,hc1,hWl2,hsub];refine pah 15 ?_;push_cast [O,U,  hm1,hc0,hc1,hWl2,hsub];refine paw z3 ?_;refine weak_fg ?_;push_cast [O,U,  hm1,hc0,hc1,hWl2,hsub]));refine pas [16] ?_;push_cast [O,U,  hm1,hc0,hc1,hWl2,hsub];refine paw z4 (ao 7 [] _);push_cast [O,U,  hm1,hc0,hc1,hWl2,hsub];refine pad ?_;push_cast [O,U,  hm1,hc0,hc1,hWl2,hsub]);repeat' ((first|refine ae ?_|refine pif ?_ ?_<;>intro h<;>try exact pN h)<;>push_cast [O,U,hsub,hWl2])
   (refine K9 [0,1] ?_;push_cast [O,U,hsub,htw])
 ·have hz0:¬ (s.first:Int)=0:=ac;(refine av 7 [] ?_;refine aO aj ?_;simp only [aP,rA];refine pah 0 ?_;push_cast [O,U,  hz,hz0,hf1];refine pah 1 ?_;push_cast [O,U,  hz,hz0,hf1];refine pah 2 ?_;push_cast [O,U,  hz,hz0,hf1];refine pah 3 ?_;push_cast [O,U,  hz,hz0,hf1];refine pah 5 ?_;push_cast [O,U,  hz,hz0,hf1];refine pah 6 ?_;push_cast [O,U,  hz,hz0,hf1];refine pah 7 ?_;push_cast [O,U,  hz,hz0,hf1];apply ar;intro z4;apply ar;intro z3;apply ar;intro z1;apply ar;intro z2;refine pas [4,8] ?_;push_cast [O,U,  hz,hz0,hf1];refine ⟨z1,z2⟩;refine pas [4] ?_;push_cast [O,U,  hz,hz0,hf1];(focus (refine pah 9 ?_;push_cast [O,U,  hz,hz0,hf1];exact z3));refine pas [8] ?_;push_cast [O,U,  hz,hz0,hf1];(focus (refine pah 9 ?_;push_cast [O,U,  hz,hz0,hf1];refine paw z3 ?_;refine weak_fg ?_;push_cast [O,U,  hz,hz0,hf1]));refine pas [10] ?_;push_cast [O,U,  hz,hz0,hf1];(focus ((refine vE (e:=69) (sz:=5) (k:=2) (ys:=(s.ring.drop s.first).map Evt.d) 15 a R1 (by push_cast [O,U,  hz,hz0,hf1]) rfl (by push_cast [O,U,  hz,hz0,hf1]) (by simp [bp]) (by push_cast [O,U,  hz,hz0,hf1]) af (by push_cast [O,U,  hz,hz0,hf1]) (by push_cast [O,U,  hz,hz0,hf1]) (by rw [hZl];exact Nat.le_refl _) (by push_cast [O,U,hsl,hdr,hls]) hb2 hR2 ?_;push_cast [O,U,  hz,hz0,hf1];refine an ?_;push_cast [O,U,  hz,hz0,hf1]);refine pah 11 ?_;push_cast [O,U,  hz,hz0,hf1];exact paw z4 (ao 7 [] _)));push_cast [O,U,  hz,hz0,hf1];refine pad ?_;push_cast [O,U,  hz,hz0,hf1]);have hm1:((s.first:Int)+(m:Int)) % (s.ring.length:Int)=(j:Int):=by rw [← hj,Int.natCast_emod,Int.natCast_add]
  by_cases ha0:a=0
  ·have hm0:m=0:=ac;have hW0:(s.ring.map Evt.d).take 0++R1.drop 0=W.map Evt.d:=by rw [← hW1,ha0,hm0];simp
   (refine av 7 [] ?_;refine aO aj ?_;simp only [aP,rA];refine pah 0 ?_;push_cast [O,U,  ha0];refine pah 1 ?_;push_cast [O,U,  ha0];refine pah 2 ?_;push_cast [O,U,  ha0];refine pah 3 ?_;push_cast [O,U,  ha0];refine pah 4 ?_;push_cast [O,U,  ha0];refine pah 5 ?_;push_cast [O,U,  ha0];apply ar;intro z2;apply ar;intro z1;refine pas [6] ?_;push_cast [O,U,  ha0];refine z1;refine pas [7] ?_;push_cast [O,U,  ha0];(focus ((refine vE (e:=69) (sz:=5) (k:=2) (n:=m) (ys:=s.ring.map Evt.d) 28 0 (W.map Evt.d) (by push_cast [O,U,  ha0]) rfl (by push_cast [O,U,  ha0]) (by simp [bp]) (by push_cast [O,U,  ha0]) af (by push_cast [O,U,  ha0]) (by push_cast [O,U,  ha0]) (by rw [hR1l];exact Nat.le_refl _) (by push_cast [O,U,htk]) (by rw [hm0];exact Nat.min_zero _) hW0 ?_;push_cast [O,U,  ha0];refine an ?_;push_cast [O,U,  ha0]);exact paw z2 (ao 7 [] _)));push_cast [O,U,  ha0];refine pad ?_;push_cast [O,U,  ha0]);refine aF (bQ 2 (Nat.le_refl 2)) ?_;push_cast [O,U,htw,hWl];(refine av 7 [] ?_;refine aO aj ?_;simp only [aP,rA];refine pah 0 ?_;push_cast [O,U,  hm1,hc0,hc1,hWl2,hsub];refine pah 1 ?_;push_cast [O,U,  hm1,hc0,hc1,hWl2,hsub];refine pah 2 ?_;push_cast [O,U,  hm1,hc0,hc1,hWl2,hsub];refine pah 3 ?_;push_cast [O,U,  hm1,hc0,hc1,hWl2,hsub];refine pah 5 ?_;push_cast [O,U,  hm1,hc0,hc1,hWl2,hsub];refine pah 6 ?_;push_cast [O,U,  hm1,hc0,hc1,hWl2,hsub];refine pah 8 ?_;push_cast [O,U,  hm1,hc0,hc1,hWl2,hsub];refine pah 9 ?_;push_cast [O,U,  hm1,hc0,hc1,hWl2,hsub];refine pah 10 ?_;push_cast [O,U,  hm1,hc0,hc1,hWl2,hsub];apply ar;intro z4;apply ar;intro z3;apply ar;intro z1;apply ar;intro z2;refine pas [4,11] ?_;push_cast [O,U,  hm1,hc0,hc1,hWl2,hsub];refine ⟨?_,?_⟩;(focus (refine pah 7 ?_;push_cast [O,U,  hm1,hc0,hc1,hWl2,hsub];exact z1));(focus (refine pah 12 ?_;push_cast [O,U,  hm1,hc0,hc1,hWl2,hsub];exact z2));refine pas [4] ?_;push_cast [O,U,  hm1,hc0,hc1,hWl2,hsub];(focus (refine pah 7 ?_;push_cast [O,U,  hm1,hc0,hc1,hWl2,hsub];refine pah 13 ?_;push_cast [O,U,  hm1,hc0,hc1,hWl2,hsub];refine pah 14 ?_;push_cast [O,U,  hm1,hc0,hc1,hWl2,hsub];refine pah 15 ?_;push_cast [O,U,  hm1,hc0,hc1,hWl2,hsub];exact z3));refine pas [11] ?_;push_cast [O,U,  hm1,hc0,hc1,hWl2,hsub];(focus (refine pah 12 ?_;push_cast [O,U,  hm1,hc0,hc1,hWl2,hsub];refine pah 13 ?_;push_cast [O,U,  hm1,hc0,hc1,hWl2,hsub];refine pah 14 ?_;push_cast [O,U,  hm1,hc0,hc1,hWl2,hsub];refine pah 15 ?_;push_cast [O,U,  hm1,hc0,hc1,hWl2,hsub];refine paw z3 ?_;refine weak_fg ?_;push_cast [O,U,  hm1,hc0,hc1,hWl2,hsub]));refine pas [16] ?_;push_cast [O,U,  hm1,hc0,hc1,hWl2,hsub];refine paw z4 (ao 7 [] _);push_cast [O,U,  hm1,hc0,hc1,hWl2,hsub];refine pad ?_;push_cast [O,U,  hm1,hc0,hc1,hWl2,hsub]);repeat' ((first|refine ae ?_|refine pif ?_ ?_<;>intro h<;>try exact pN h)<;>push_cast [O,U,hsub,hWl2])
   (refine K9 [0,1] ?_;push_cast [O,U,hsub,htw])
  ·have ha0':¬ (a:Int)=0:=ac;(refine av 7 [] ?_;refine aO aj ?_;simp only [aP,rA];refine pah 0 ?_;push_cast [O,U,  ha0,ha0',ham1];refine pah 1 ?_;push_cast [O,U,  ha0,ha0',ham1];refine pah 2 ?_;push_cast [O,U,  ha0,ha0',ham1];refine pah 3 ?_;push_cast [O,U,  ha0,ha0',ham1];refine pah 4 ?_;push_cast [O,U,  ha0,ha0',ham1];refine pah 5 ?_;push_cast [O,U,  ha0,ha0',ham1];apply ar;intro z2;apply ar;intro z1;refine pas [6] ?_;push_cast [O,U,  ha0,ha0',ham1];refine z1;refine pas [7] ?_;push_cast [O,U,  ha0,ha0',ham1];(focus ((refine Gj (e:=69) (sz:=5) (k:=2) (rows:=R1) (ys:=s.ring.map Evt.d) (m - a) (W.map Evt.d) rfl (by push_cast [O,U,  ha0,ha0',ham1]) (by simp [bp]) (by push_cast [O,U,  ha0,ha0',ham1]) af (by push_cast [O,U,  ha0,ha0',ham1]) (by push_cast [O,U,  ha0,ha0',ham1]) (by rw [hR1l];omega) (by push_cast [O,U,htk]) hb3 hW1 ?_;push_cast [O,U,  ha0,ha0',ham1];refine an ?_;push_cast [O,U,  ha0,ha0',ham1]);exact paw z2 (ao 7 [] _)));push_cast [O,U,  ha0,ha0',ham1];refine pad ?_;push_cast [O,U,  ha0,ha0',ham1]);refine aF (bQ 2 (Nat.le_refl 2)) ?_;push_cast [O,U,htw,hWl];(refine av 7 [] ?_;refine aO aj ?_;simp only [aP,rA];refine pah 0 ?_;push_cast [O,U,  hm1,hc0,hc1,hWl2,hsub];refine pah 1 ?_;push_cast [O,U,  hm1,hc0,hc1,hWl2,hsub];refine pah 2 ?_;push_cast [O,U,  hm1,hc0,hc1,hWl2,hsub];refine pah 3 ?_;push_cast [O,U,  hm1,hc0,hc1,hWl2,hsub];refine pah 5 ?_;push_cast [O,U,  hm1,hc0,hc1,hWl2,hsub];refine pah 6 ?_;push_cast [O,U,  hm1,hc0,hc1,hWl2,hsub];refine pah 8 ?_;push_cast [O,U,  hm1,hc0,hc1,hWl2,hsub];refine pah 9 ?_;push_cast [O,U,  hm1,hc0,hc1,hWl2,hsub];refine pah 10 ?_;push_cast [O,U,  hm1,hc0,hc1,hWl2,hsub];apply ar;intro z4;apply ar;intro z3;apply ar;intro z1;apply ar;intro z2;refine pas [4,11] ?_;push_cast [O,U,  hm1,hc0,hc1,hWl2,hsub];refine ⟨?_,?_⟩;(focus (refine pah 7 ?_;push_cast [O,U,  hm1,hc0,hc1,hWl2,hsub];exact z1));(focus (refine pah 12 ?_;push_cast [O,U,  hm1,hc0,hc1,hWl2,hsub];exact z2));refine pas [4] ?_;push_cast [O,U,  hm1,hc0,hc1,hWl2,hsub];(focus (refine pah 7 ?_;push_cast [O,U,  hm1,hc0,hc1,hWl2,hsub];refine pah 13 ?_;push_cast [O,U,  hm1,hc0,hc1,hWl2,hsub];refine pah 14 ?_;push_cast [O,U,  hm1,hc0,hc1,hWl2,hsub];refine pah 15 ?_;push_cast [O,U,  hm1,hc0,hc1,hWl2,hsub];exact z3));refine pas [11] ?_;push_cast [O,U,  hm1,hc0,hc1,hWl2,hsub];(focus (refine pah 12 ?_;push_cast [O,U,  hm1,hc0,hc1,hWl2,hsub];refine pah 13 ?_;push_cast [O,U,  hm1,hc0,hc1,hWl2,hsub];refine pah 14 ?_;push_cast [O,U,  hm1,hc0,hc1,hWl2,hsub];refine pah 15 ?_;push_cast [O,U,  hm1,hc0,hc1,hWl2,hsub];refine paw z3 ?_;refine weak_fg ?_;push_cast [O,U,  hm1,hc0,hc1,hWl2,hsub]));refine pas [16] ?_;push_cast [O,U,  hm1,hc0,hc1,hWl2,hsub];refine paw z4 (ao 7 [] _);push_cast [O,U,  hm1,hc0,hc1,hWl2,hsub];refine pad ?_;push_cast [O,U,  hm1,hc0,hc1,hWl2,hsub]);repeat' ((first|refine ae ?_|refine pif ?_ ?_<;>intro h<;>try exact pN h)<;>push_cast [O,U,hsub,hWl2])
   (refine K9 [0,1] ?_;push_cast [O,U,hsub,htw])
end
section
attribute [local irreducible] PL QL aL ah bg La aV PA
open IntWalk renaming iteOmega → O, toNatUp → U
structure SkI (evs got:List Evt) (s:Soc):Prop where
 ok:s.ok
 h:(s.lost=false∧got++s.w=evs)∨(s.lost=true∧(got++s.w).length < evs.length)
theorem SkI.send {evs got:List Evt} {s:Soc} (h:SkI evs got s) (e:Evt):SkI (evs++[e]) got (s.send e).1:=by
 refine ⟨h.ok.send e,?_⟩;rcases Soc.send_w h.ok e with ⟨_,hw,hl⟩|⟨_,hw,hl⟩
 ·rw [hw,hl];rcases h.h with ⟨h1,h2⟩|⟨h1,h2⟩
  ·exact .inl ⟨h1,by rw [← List.append_assoc,h2]⟩
  ·refine .inr ⟨h1,?_⟩;simp only [List.length_append,List.length_cons,List.length_nil] at h2 ⊢;omega
 ·rw [hw];refine .inr ⟨hl,?_⟩;rcases h.h with ⟨h1,h2⟩|⟨h1,h2⟩
  ·rw [h2];simp
  ·simp only [List.length_append,List.length_cons,List.length_nil] at h2 ⊢;omega
theorem SkI.recv {evs got:List Evt} {s:Soc} (h:SkI evs got s) (m:Nat):SkI evs (got++s.w.take (min m s.n)) (s.recv m):=by
 refine ⟨h.ok.recv m,?_⟩;have hl:(s.recv m).lost=s.lost:=rfl;rw [hl,Soc.recv_w h.ok,List.append_assoc,List.take_append_drop];exact h.h
theorem SkI.last {evs got:List Evt} {s:Soc} (h:SkI evs got s):(s.lost=false∧got++s.w.take (min 256 s.n)=evs)∨(s.lost=true∧(got++s.w.take (min 256 s.n)).length < evs.length):=by
 have h1:=h.ok.cap;have h2:=h.ok.n;rw [show min 256 s.n=s.w.length by rw [Soc.wlen];omega,List.take_length];exact h.h
theorem SkI.len2 {evs got:List Evt} {s:Soc} (h:SkI evs got s):got.length+s.w.length≤evs.length:=by
 rcases h.h with ⟨_,h⟩|⟨_,h⟩
 ·rw [← h,List.length_append];exact Nat.le_refl _
 ·rw [List.length_append] at h;omega
theorem SkI.len {evs got:List Evt} {s:Soc} (h:SkI evs got s):got.length≤evs.length:=by have:=h.len2;omega
def sk0 (n:Nat):Soc:=⟨List.replicate n xY,0,0,false⟩
theorem Gk {n:Nat} (h1:1≤n) (h2:n≤256):(sk0 n).ok:=⟨by simp only [sk0,List.length_replicate];omega,by simp only [sk0,List.length_replicate];omega,by simp only [sk0,List.length_replicate];omega,Nat.zero_le _⟩
theorem SkI.beg {n:Nat} (h1:1≤n) (h2:n≤256):SkI [] [] (sk0 n):=⟨Gk h1 h2,.inl ⟨rfl,rfl⟩⟩
end
section
attribute [local irreducible] PL QL aL ah bg La aV PA bm
open IntWalk renaming iteOmega → O, toNatUp → U
set_option maxRecDepth 20000
theorem Dj {k:Ker} {n:Nat} (h:n≤k.evs.length):dx k (n:Int)=n:=by
 unfold dx;split
 ·omega
 ·rw [if_pos ac];exact Int.toNat_natCast n
def skE (n:Int):Evt:=⟨n,0,0,⟨#[]⟩,⟨#[]⟩⟩
attribute [push_cast] skE
def skn1:Soc:=((sk0 2).send (skE 1)).1
def skn2:Soc:=(skn1.send (skE 2)).1
def skn3:Soc:=(skn2.send (skE 3)).1
def skn4:Soc:=skn3.recv 1
def skn5:Soc:=(skn4.send (skE 4)).1
theorem Is:((sk0 2).send (skE 1)).2=0∧(skn1.send (skE 2)).2=0∧(skn2.send (skE 3)).2=61∧skn3.w.take (min 1 skn3.n)=[skE 1]∧(skn4.send (skE 4)).2=0∧skn5.lost=true∧skn5.n=2:=by
 refine ⟨?_,?_,?_,?_,?_,?_,?_⟩<;>decide +kernel
set_option maxHeartbeats 8000000 in
theorem vF:ah prog 39 [] [] fun r os=>r = .c (.v (.bool true))∧os=[]:=by
 obtain ⟨r1,r2,r3,w4,r5,l5,n5⟩:=Is;have o0:(sk0 2).ok:=Gk af af;have o1:skn1.ok:=o0.send _;have o2:skn2.ok:=o1.send _;have o3:skn3.ok:=o2.send _;have o4:skn4.ok:=o3.recv _;have hn:ah prog 38 [.c (.v (.int .i64 2))] [] fun r os=>r = .two (.c (.ptr 0 0)) (.c (.v (.int .i64 0)))∧os=[skB 1 (sk0 2),skR (sk0 2)]:=sr 2 af af
 have d1:=gg (sk0 2) (skE 1) o0;have d2:=gg skn1 (skE 2) o1;have d3:=gg skn2 (skE 3) o2;have d4:ah prog 41 [.c (.ptr 0 0),.c (.v (.int .i64 1))] [skB 1 skn3,skR skn3] fun r os=>r = .c (.sl 5 ((skn3.w.take (min 1 skn3.n)).map Evt.d))∧os=[skB 1 skn4,skR skn4]:=lj skn3 1 o3 af
 have d5:=gg skn4 (skE 4) o4;have d6:=li skn5;have d7:=li ⟨skn5.ring,skn5.first,skn5.n,false⟩;have d8:=zN ⟨skn5.ring,skn5.first,skn5.n,false⟩;rw [r1,show ((sk0 2).send (skE 1)).1=skn1 from rfl] at d1;rw [r2,show (skn1.send (skE 2)).1=skn2 from rfl] at d2;rw [r3,show (skn2.send (skE 3)).1=skn3 from rfl] at d3;rw [w4] at d4;rw [r5,show (skn4.send (skE 4)).1=skn5 from rfl] at d5;rw [l5] at d6;simp only at d7 d8;rw [n5] at d6 d7 d8;generalize skn5=s5 at *;generalize skn4=s4 at *;generalize skn3=s3 at *;generalize skn2=s2 at *;generalize skn1=s1 at *;generalize sk0 2=s0 at *;refine aw func39 ntmps39 results39 ?_;push_cast [O,U];repeat' ((first|refine au ?_|refine pif ?_ ?_<;>intro h<;>try exact pN h)<;>push_cast [O,U])
 (refine plE [] hn ?_ ?_<;>push_cast [O,U]);repeat' ((first|refine au ?_|refine pif ?_ ?_<;>intro h<;>try exact pN h)<;>push_cast [O,U])
 refine fD rfl rfl rfl rfl aj (by first|exact ⟨rfl,af⟩|(simp [bp])) (an ?_);push_cast [O,U];(refine plE [0,1] d1 ?_ ?_<;>push_cast [O,U]);(refine plE [0,1] d2 ?_ ?_<;>push_cast [O,U]);(refine plE [0,1] d3 ?_ ?_<;>push_cast [O,U]);(refine plE [0,1] d4 ?_ ?_<;>push_cast [O,U]);repeat' ((first|refine au ?_|refine pif ?_ ?_<;>intro h<;>try exact pN h)<;>push_cast [O,U,List.map_cons,List.map_nil])
 (refine plE [0,1] d5 ?_ ?_<;>push_cast [O,U]);(refine plE [0,1] d6 ?_ ?_<;>push_cast [O,U]);(refine plE [0,1] d7 ?_ ?_<;>push_cast [O,U]);(refine plE [0,1] d8 ?_ ?_<;>push_cast [O,U]);repeat' ((first|refine au ?_|refine pif ?_ ?_<;>intro h<;>try exact pN h)<;>push_cast [O,U])
 exact am []
set_option maxHeartbeats 16000000 in
theorem xZ (L:List Int) (hL:∀ x ∈ L,-9223372036854775808≤x∧x≤9223372036854775807) (hl:L.length≤9223372036854775807) :
  ah prog 11 [.c (.sl 1 (L.map fun x=>[.v (.int .i64 x)]))] [] fun r os=>r = .c (.v (.bool true))∧os=[]:=by
 refine aw func11 ntmps11 results11 ?_;have hm:=rq L 0 af hL hl;have hkn:=vF;have nex:=fun (j:Nat) (hj:j < 1000000) (m:Int) (hm:0 < m) (hm2:m≤9223372036854775807)=>cP L j m hj hm hm2 hL hl
 push_cast [O,U];have cB:aH 14 []:=trivial;repeat' ((first|refine ae ?_|refine pif ?_ ?_<;>intro h<;>try exact pN h)<;>push_cast [O,U])
 refine aW false [0] rfl rfl aj hm ?_ nofun ?_
 ·push_cast [O,U]
 rintro r os ⟨l,hs,rfl,rfl⟩;have hS:=eN.of hs;have hn:=FZ hS;refine an ?_;push_cast [O,U];(refine plE [] hn ?_ ?_<;>push_cast [O,U]);repeat' ((first|refine ae ?_|refine pif ?_ ?_<;>intro h<;>try exact pN h)<;>push_cast [O,U])
 have n1:=nex 8 af 8 af af;(refine plc [0] (n1) ?_ ?_;push_cast [O,U];rintro r os ⟨v,⟨va,vb⟩,rfl,rfl⟩;push_cast [O,U]);obtain ⟨c,rfl⟩:∃ c:Nat,v=(c:Int):=⟨v.toNat,ac⟩
 have hs:ah prog 38 [.c (.v (.int .i64 (1+(c:Int))))] [] fun r os=>r = .two (.c (.ptr 0 0)) (.c (.v (.int .i64 0)))∧os=[skB 1 (sk0 (c+1)),skR (sk0 (c+1))]:=by
  rw [show (1+(c:Int))=((c+1:Nat):Int) by omega];exact sr (c+1) ac ac
 have hI0:SkI [] [] (sk0 (c+1)):=SkI.beg ac ac;generalize sk0 (c+1)=s0 at *;(refine plE [] hs ?_ ?_<;>push_cast [O,U]);repeat' ((first|refine ae ?_|refine pif ?_ ?_<;>intro h<;>try exact pN h)<;>push_cast [O,U])
 (refine plE [] hkn ?_ ?_<;>push_cast [O,U]);refine fD rfl rfl rfl rfl aj (by simp [bp]) (an ?_);push_cast [O,U];refine fD rfl rfl rfl rfl aj (by simp [bp]) (an ?_);push_cast [O,U];repeat' ((first|refine ae ?_|refine pif ?_ ?_<;>intro h<;>try exact pN h)<;>push_cast [O,U])
 have n2:=nex 9 af 16 af af;(refine plc [0] (n2) ?_ ?_;push_cast [O,U];rintro r os ⟨v,⟨va,vb⟩,rfl,rfl⟩;push_cast [O,U]);obtain ⟨n,rfl⟩:∃ n:Nat,v=(n:Int):=⟨v.toNat,ac⟩
 repeat' ((first|refine ae ?_|refine pif ?_ ?_<;>intro h<;>try exact pN h)<;>push_cast [O,U])
 refine aF (dm 8 69 5 ac (by push_cast [O,U])) ?_;push_cast [O,U];(apply ap (α:=Nat × Ker × Nat × Soc × List Evt) 14 [] (fun x=>[(10,.c (.v (.int .i64 x.1))),(9,.c (.v (.int .i64 x.2.1.evs.length))),(8,.c (.own 6 (x.2.2.2.2.length)))]) (fun x=>[(0,tape L x.2.2.1),(1,jd 2 3 x.2.1),(2,jI x.2.1),(3,je x.2.1),(4,skB 5 x.2.2.2.1),(5,skR x.2.2.2.1),(6,.arr 69 5 (x.2.2.2.2.map Evt.d))]) (fun x=>x.1≤n∧eJ (n - x.1) x.2.1∧x.2.2.1≤10+60 * (n - x.1)∧SkI x.2.1.evs x.2.2.2.2 x.2.2.2.1) (fun x=>x.1) ((n,vw l,10,s0,[]));(focus ((try push_cast [O,U]);rfl));(focus exact ⟨Nat.le_refl _,by rw [Nat.sub_self];exact eJ.beg hS,by simp only;omega,hI0⟩);(focus ((refine weak_fg ?_;try push_cast [O,U]);(try (rfl)))));rintro ⟨i,k,q,s,got⟩ ⟨hi,hk,hq,hI⟩;simp only at hi hk hq hI;have hev:=hk.e;have htp:=hk.t;have hgl:=hI.len;by_cases h0:0 < i
 case neg =>
  have h0':¬ (0:Int) < (i:Int):=ac;have hr:ah prog 41 [.c (.ptr 0 0),.c (.v (.int .i64 256))] [skB 1 s,skR s] fun r os=>r = .c (.sl 5 ((s.w.take (min 256 s.n)).map Evt.d))∧os=[skB 1 (s.recv 256),skR (s.recv 256)]:=lj s 256 hI.ok af
  have he:=dV k 0 af ac;rw [show dx k 0=0 from rfl,List.drop_zero] at he;have hlo:=li (s.recv 256);have hla:=hI.last;have hga:got.length+(s.w.take (min 256 s.n)).length≤1000000:=by
   have:=hI.len2;rw [List.length_take];omega
  obtain ⟨T,hT⟩:∃ T,s.w.take (min 256 s.n)=T:=⟨_,rfl⟩
  rw [hT] at hr hla hga;have htk:List.take (got.length+T.length) (got.map Evt.d++T.map Evt.d)=got.map Evt.d++T.map Evt.d:=List.take_of_length_le (by simp);have hsm:=fo (got++T) k.evs (by rw [List.length_append];omega) ac;have hls:(s.recv 256).lost=s.lost:=rfl;generalize s.recv 256=s2 at *;rcases hla with ⟨hl1,hl2⟩|⟨hl1,hl2⟩
  ·rw [hls,hl1] at hlo;rw [decide_eq_true hl2,List.map_append] at hsm;push_cast [O,U];repeat' ((first|refine plE [4,5] hr ?_ ?_;focus (push_cast [O,U,h0',htk];done)|refine plE [1,2,3] he ?_ ?_;focus (push_cast [O,U,h0',htk];done)|refine plE [4,5] hlo ?_ ?_;focus (push_cast [O,U,h0',htk];done)|(refine aW true [] rfl rfl aj (hsm) ?_ ?_ ?_;push_cast [O,U,h0',htk];(intro _ r os;rintro ⟨rfl,rfl⟩;push_cast [O,U,h0',htk]);rintro r os ⟨rfl,rfl⟩;refine an ?_)|refine ae ?_|refine pif ?_ ?_<;>intro h<;>try exact pN h)<;>push_cast [O,U,h0',htk])
   exact am []
  ·rw [hls,hl1] at hlo;rw [List.length_append] at hl2;have hl3:(got.length:Int)+(T.length:Int) < (k.evs.length:Int):=ac;push_cast [O,U];repeat' ((first|(refine plE [4,5] hr ?_ ?_;focus (push_cast [O,U,h0',hl3];done))|(refine plE [1,2,3] he ?_ ?_;focus (push_cast [O,U,h0',hl3];done))|(refine plE [4,5] hlo ?_ ?_;focus (push_cast [O,U,h0',hl3];done))|refine ae ?_|refine pif ?_ ?_<;>intro h<;>try exact pN h)<;>push_cast [O,U,h0',hl3])
   (refine K9 [] ?_;push_cast [O,U,hl3])
 obtain ⟨i,rfl⟩:∃ i',i=i'+1:=⟨i - 1,ac⟩
 have h0':(0:Int) < (i:Int)+1:=ac;have hkt:=fO k hk.b.inv.tree;obtain ⟨ix1,ix2,ix3,ix4⟩:=hk.ixs ac;have hop:=oS L q k.tree ac ix4 ix3 ix1 ix2 hL hl;push_cast [O,U];repeat' ((first|refine ae ?_|refine pif ?_ ?_<;>intro h<;>try exact pN h)<;>push_cast [O,U,h0'])
 (refine plE [1,2,3] hkt ?_ ?_<;>push_cast [O,U]);(refine plc [0] (hop) ?_ ?_;push_cast [O,U];rintro r os ⟨op,q2,ho,hq2,rfl,rfl⟩;push_cast [O,U]);have hdo:=hU k op hk.b ho ac ac;have hk2:=hk.do ac op;obtain ⟨new,hnew,_⟩:=JS db hk.b.inv op;have hnew2:(bM k op).1.evs=k.evs++new:=hnew;obtain ⟨k2,hke⟩:∃ k2,(bM k op).1=k2:=⟨_,rfl⟩
 rw [hke] at hdo hk2 hnew2;have hev2:=hk2.e;have hE:=dV k2 (k.evs.length:Int) ac ac;rw [Dj (by rw [hnew2,List.length_append];omega),hnew2,List.drop_left' rfl] at hE;have hnl:new.length≤1000000:=by rw [hnew2,List.length_append] at hev2;omega
 have hla:=ig k2;have n5:=nex q2 ac 5 af af;(refine eZ 1 [1,2,3] (hdo) ?_ ?_;push_cast [O,U];rintro r os ⟨rfl,rfl⟩;push_cast [O,U]);(refine plE [1,2,3] hE ?_ ?_<;>push_cast [O,U]);repeat' ((first|refine ae ?_|refine pif ?_ ?_<;>intro h<;>try exact pN h)<;>push_cast [O,U])
 (apply ap (α:=Nat × Soc) 14 [] (fun y=>[(12,.c (.v (.int .i64 y.1)))]) (fun y=>[(4,skB 5 y.2),(5,skR y.2)]) (fun y=>y.1≤new.length∧SkI (k.evs++new.take y.1) got y.2) (fun y=>new.length - y.1) ((0,s));(focus ((try push_cast [O,U]);rfl));(focus exact ⟨Nat.zero_le _,by simp only [List.take_zero,List.append_nil];exact hI⟩);(focus ((refine weak_fg ?_;try push_cast [O,U]);(try (rfl)))));rintro ⟨a,s1⟩ ⟨ha,hI1⟩;simp only at ha hI1;push_cast [O,U];by_cases hal:a < new.length
 ·have hal':(a:Int) < (new.length:Int):=ac;have hsd:=gg s1 (new.getD a default) hI1.ok;repeat' ((first|(refine plE [4,5] hsd ?_ ?_;focus (push_cast [O,U,hal'];done))|refine ae ?_|refine pif ?_ ?_<;>intro h<;>try exact pN h)<;>push_cast [O,U,hal'])
  exact ⟨(a+1,(s1.send (new.getD a default)).1),⟨by simp only;omega,by simp only;rw [ai _ hal,List.take_succ_eq_append_getElem hal,← List.append_assoc];exact hI1.send _⟩,aA,by simp only;omega⟩
 ·have hal':¬ (a:Int) < (new.length:Int):=ac;rw [List.take_of_length_le ac,← hnew2] at hI1;repeat' ((first|refine ae ?_|refine pif ?_ ?_<;>intro h<;>try exact pN h)<;>push_cast [O,U,hal'])
  (refine plE [1,2,3] hla ?_ ?_<;>push_cast [O,U]);repeat' ((first|refine ae ?_|refine pif ?_ ?_<;>intro h<;>try exact pN h)<;>push_cast [O,U])
  (refine plc [0] (n5) ?_ ?_;push_cast [O,U];rintro r os ⟨v,⟨v1,v2⟩,rfl,rfl⟩;push_cast [O,U]);obtain ⟨most,rfl⟩:∃ most:Nat,v=(most:Int):=⟨v.toNat,ac⟩
  have hr:=lj s1 most hI1.ok ac;have hI2:=hI1.recv most;have hga:got.length+(s1.w.take (min most s1.n)).length≤1000000:=by
   have:=hI1.len2;rw [List.length_take];omega
  obtain ⟨T,hT⟩:∃ T,s1.w.take (min most s1.n)=T:=⟨_,rfl⟩
  rw [hT] at hr hI2 hga;(refine plE [4,5] hr ?_ ?_<;>push_cast [O,U]);repeat' ((first|refine ae ?_|refine pif ?_ ?_<;>intro h<;>try exact pN h)<;>push_cast [O,U])
  exact ⟨(i,k2,q2+1,s1.recv most,got++T),⟨by simp only;omega,by simp only;rw [show n - i=n - (i+1)+1 by omega];exact hk2,by simp only;omega,hI2⟩,by (refine weak_fg ?_;push_cast [O,U,List.length_append]),by simp only;omega⟩
end
end Go.Proofs.YtmbbkfffcflfcaaGreatDoor
