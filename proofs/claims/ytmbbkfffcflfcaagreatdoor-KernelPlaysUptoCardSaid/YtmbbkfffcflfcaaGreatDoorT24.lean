/- What the program computes, and the plain laws of it, part 24. -/
import Derived.WideKeyEntry
import Derived.Lib.AppendZerosOnto
import Derived.Lib.Join
import Derived.Test.YtmbbkfffcflfcaaGreatDoorT20
import Derived.Test.YtmbbkfffcflfcaaGreatDoorT23
namespace Go.Proofs.YtmbbkfffcflfcaaGreatDoor
open Go.Proofs.Tryz
set_option linter.unusedSimpArgs false
set_option linter.unusedVariables false
open Go.RowKit
open IntWalk renaming iteOmega → O, toNatUp → U
structure Small (d:Dev):Prop where
 name:d.name.size≤32
 orig:d.original.size≤32
 sub:d.subsystem.size≤32
 drv:d.driver.size≤32
 als:d.alias_.size≤256
 att:d.attrs.length≤24
 atz:∀ a ∈ d.attrs,a.name.size≤32∧a.value.size≤256
 ix:1≤d.index∧d.index≤1073741824
theorem iG {d:Dev} (h:aS d=0):Small d:=by
 unfold aS at h;have h1:dI d=true:=by cases e:dI d with|true=>rfl|false=>rw [e] at h;simp at h
 rw [h1] at h;have h2:namedM d=true:=by cases e:namedM d with|true=>rfl|false=>rw [e] at h;simp at h
 rw [h2] at h;have h3:kindM d=true:=by cases e:kindM d with|true=>rfl|false=>rw [e] at h;simp at h
 rw [h3] at h;have h4:numberM d=true:=by cases e:numberM d with|true=>rfl|false=>rw [e] at h;simp at h
 rw [h4] at h;simp only [Bool.not_true,Bool.false_eq_true,if_false] at h;have h5:¬ 24 < d.attrs.length:=fun e=>by rw [if_pos e] at h;cases h
 rw [if_neg h5] at h;have h6:attrsB d.attrs=true:=by cases e:attrsB d.attrs with|true=>rfl|false=>rw [e] at h;simp at h
 simp only [namedM,Bool.and_eq_true,Bool.or_eq_true,decide_eq_true_eq] at h2;obtain ⟨⟨⟨⟨a1,a2⟩,a3⟩,a4⟩,a5⟩:=h2;simp only [fJ,Bool.and_eq_true,decide_eq_true_eq] at a5;simp only [dI,Bool.and_eq_true,decide_eq_true_eq] at h1;refine ⟨cE a1,cE a2,cE a3,?_,a5.2,ac,fun a ha=>?_,h1.1.1⟩
 ·rcases a4 with e|e
  ·rw [e];exact Nat.zero_le _
  ·exact cE e
 ·simp only [attrsB,Bool.and_eq_true,List.all_eq_true] at h6;have h7:=h6.2 a ha;simp only [iz,fJ,Bool.and_eq_true,decide_eq_true_eq] at h7;exact ⟨cE h7.1.1,h7.2.2⟩
theorem Small.ok {d:Dev} (h:Small d):d.ok :=
 ⟨bN h.name af,bN h.orig af,bN h.sub af,bN h.drv af,bN h.als af,fun a ha=>⟨bN (h.atz a ha).1 af,bN (h.atz a ha).2 af⟩,by have:=h.att;omega,by have:=h.orig;omega⟩
structure bL (k:Ker):Prop where
 inv:bJ k
 evl:k.evs.length≤1000000
 modl:k.mods.length≤1000
 als:∀ m ∈ k.mods,m.aliases.length≤1000000∧m.needs.length≤1000000
 alz:∀ m ∈ k.mods,∀ p ∈ m.aliases,p.size≤1000000000
 top:k.top≤1000000
theorem bL.small {k:Ker} (h:bL k) {d:Dev} (hd:d ∈ k.tree):Small d:=iG (h.inv.tree.chk d hd)
theorem bL.ok {k:Ker} (h:bL k) {d:Dev} (hd:d ∈ k.tree):d.ok:=(h.small hd).ok
theorem bL.orig {k:Ker} (h:bL k):∀ d ∈ k.tree,d.original.size≤1000:=fun d hd=>by have:=(h.small hd).orig;omega
theorem bL.att {k:Ker} (h:bL k):∀ d ∈ k.tree,d.attrs.length≤1000000000:=fun d hd=>by have:=(h.small hd).att;omega
theorem bL.len {k:Ker} (h:bL k):k.tree.length≤256:=h.inv.tree.len
theorem bL.nms {k:Ker} (h:bL k):∀ d ∈ k.tree,d.name.size≤1000:=fun d hd=>by have:=(h.small hd).name;omega
theorem bL.okp {k:Ker} (h:bL k):Okp k.tree:=h.inv.tree.okt.p
theorem tX {α:Type} [DecidableEq α]:∀ (l m:List α),l.Nodup → (∀ x ∈ l,x ∈ m) → l.length≤m.length
 | [],m,_,_=>by simp
 | a :: l,m,h,hs=>by
  obtain ⟨h1,h2⟩:=List.nodup_cons.1 h;have ih:=tX l (m.filter fun x=>decide (x≠a)) h2 (fun x hx=>by
   rw [List.mem_filter];refine ⟨hs x (by simp [hx]),?_⟩;simp only [ne_eq,decide_eq_true_eq];rintro rfl;exact h1 hx)
  have h3:(m.filter fun x=>decide (x≠a)).length < m.length:=by
   have hle:=List.length_filter_le (fun x=>decide (x≠a)) m;rcases Nat.lt_or_ge (m.filter fun x=>decide (x≠a)).length m.length with h|h
   ·exact h
   ·have:=(List.length_filter_eq_length_iff (p:=fun x=>decide (x≠a)) (l:=m)).1 ac a (hs a (by simp));simp at this
  simp only [List.length_cons];omega
theorem HG {l:List ByteArray} {ms:List Mod} (hn:l.Nodup) (h:∀ s ∈ l,∃ m,aJ ms s=some m):l.length≤ms.length:=by
 have h1:l ⊆ ms.map Mod.name:=fun s hs=>by
  obtain ⟨m,hm⟩:=h s hs;obtain ⟨a,b⟩:=ez hm;exact List.mem_map.2 ⟨m,a,b⟩
 have:=tX l (ms.map Mod.name) hn fun x hx=>h1 hx
 rwa [List.length_map] at this
theorem bL.lod {k:Ker} (h:bL k):k.loaded.length≤1000:=Nat.le_trans (HG h.inv.lnd fun s hs=>by obtain ⟨m,hm,_⟩:=h.inv.load s hs;exact ⟨m,hm⟩) h.modl
theorem jH (sa:List Atr → ByteArray → ByteArray → List Atr) (k:Ker) (op:Opr):(k.doM sa op).1.mods=k.mods∧(k.doM sa op).1.top≤k.top+1:=by
 have hd:=fun d v=>mm k d v
 unfold Ker.doM;split
 ·unfold Ker.add;split
  ·exact ⟨rfl,by simp only;omega⟩
  ·split
   ·exact ⟨rfl,by simp only;omega⟩
   ·split
    ·exact ⟨rfl,Int.le_refl _⟩
    ·rename_i s _;have h:=mm (k.put (fF k (fq k.tree op.path) op.dev)) (fF k (fq k.tree op.path) op.dev) s;exact ⟨h.2.1,by simp only;rw [h.2.2];exact Int.le_refl _⟩
 ·split
  ·unfold Ker.load;split
   ·exact ⟨rfl,by simp only;omega⟩
   ·split
    ·exact ⟨rfl,by simp only;omega⟩
    ·have h:=lF (fun d=>decide (d.driver=⟨#[]⟩) && dU ‹Mod› d) op.value k.tree (k.withL (k.loaded++[op.value]));exact ⟨h.2.1,by simp only;rw [h.2.2];simp only [Ker.withL];omega⟩
  ·split
   ·unfold Ker.unload;split
    ·exact ⟨rfl,by simp only;omega⟩
    ·split
     ·exact ⟨rfl,by simp only;omega⟩
     ·have h:=lF (fun d=>decide (d.driver=op.value)) ⟨#[]⟩ k.tree (k.withL (k.loaded.filter fun s=>!decide (s=op.value)));exact ⟨h.2.1,by simp only;rw [h.2.2];simp only [Ker.withL];omega⟩
   ·split
    ·exact ⟨rfl,by simp only;omega⟩
    ·split
     ·exact ⟨rfl,by simp only;omega⟩
     ·unfold Ker.one;split
      ·exact ⟨rfl,by simp only [Ker.remove];omega⟩
      ·split
       ·unfold Ker.set;split
        ·exact ⟨rfl,by simp only;omega⟩
        ·split
         ·exact ⟨rfl,by simp only;omega⟩
         ·split
          ·exact ⟨rfl,by simp only [Ker.withT];omega⟩
          ·exact ⟨rfl,by simp only [Ker.emit,Ker.tell,Ker.withT];omega⟩
       ·split
        ·exact ⟨rfl,by simp only [Ker.trigger,Ker.emit,Ker.tell];omega⟩
        ·split
         ·unfold Ker.rename;split
          ·exact ⟨rfl,by simp only;omega⟩
          ·split
           ·exact ⟨rfl,by simp only;omega⟩
           ·split
            ·exact ⟨rfl,by simp only [Ker.withT];omega⟩
            ·exact ⟨rfl,by simp only [Ker.emit,Ker.tell,Ker.withT];omega⟩
         ·split
          ·unfold Ker.bind;split
           ·exact ⟨rfl,by simp only;omega⟩
           ·split
            ·exact ⟨rfl,by simp only;omega⟩
            ·exact ⟨(hd _ op.value).2.1,by simp only;rw [(hd _ op.value).2.2];omega⟩
          ·unfold Ker.unbind;split
           ·exact ⟨rfl,by simp only;omega⟩
           ·exact ⟨(hd _ ⟨#[]⟩).2.1,by simp only;rw [(hd _ ⟨#[]⟩).2.2];omega⟩
theorem bL.do {k:Ker} (h:bL k) (sa:List Atr → ByteArray → ByteArray → List Atr) (op:Opr) (he:k.evs.length+256≤1000000) (ht:k.top+1≤1000000):bL (k.doM sa op).1:=by
 obtain ⟨h1,h2⟩:=jH sa k op;have h3:=E4 sa h.inv op;exact ⟨h.inv.doM op,ac,by rw [h1];exact h.modl,by rw [h1];exact h.als,by rw [h1];exact h.alz,ac⟩
def Ker.re (k:Ker):List E:=[.sl 6 (k.mods.map Mod.d),.sl 10 (k.tree.map Dev.d),.sl 1 (k.loaded.map aU),.sl 5 (k.evs.map Evt.d),.v (.int .i64 k.top)]
attribute [push_cast] Ker.re
def Opr.e (o:Opr):List E:=[.v (.int .i64 o.kind),.v (.string o.path),.v (.int .i64 o.dev.index),.v (.int .i64 o.dev.parent),.v (.string o.dev.name),.v (.string o.dev.original),.v (.string o.dev.subsystem),.v (.string o.dev.driver),.v (.string o.dev.alias_),.v (.int .i64 o.dev.kind),.v (.int .i64 o.dev.number),.sl 2 (o.dev.attrs.map Atr.d),.v (.string o.name),.v (.string o.value)]
attribute [push_cast] Opr.e
def Ker.tells (k:Ker) (xs:List Evt):Ker:=xs.foldl (fun k x=>k.tell x.act x.idx x.path x.old) k
theorem rC (k:Ker) (xs:List Evt) (x:Evt):k.tells (xs++[x])=(k.tells xs).tell x.act x.idx x.path x.old:=by unfold Ker.tells;rw [List.foldl_append];rfl
theorem rD (xs:List Evt):∀ k:Ker,(k.tells xs).tree=k.tree∧(k.tells xs).mods=k.mods∧(k.tells xs).loaded=k.loaded∧(k.tells xs).top=k.top∧(k.tells xs).evs.length=k.evs.length+xs.length:=by
 induction xs with
 | nil=>intro k;exact ⟨rfl,rfl,rfl,rfl,rfl⟩
 | cons x xs ih =>
  intro k;obtain ⟨h1,h2,h3,h4,h5⟩:=ih (k.tell x.act x.idx x.path x.old);refine ⟨h1,h2,h3,h4,?_⟩;show ((k.tell x.act x.idx x.path x.old).tells xs).evs.length=_;rw [h5];show (k.evs++[_]).length+xs.length=_;rw [List.length_append,List.length_singleton,List.length_cons];omega
def nB (l ds:List Dev):List Evt:=ds.map fun d=>⟨0,2,d.index,bF l d.index,⟨#[]⟩⟩
theorem tY (l:List Dev):∀ (ds:List Dev) (k:Ker),k.tells (nB l ds)=⟨k.tree,k.mods,k.loaded,k.evs++ey l k.evs.length ds,k.top⟩
 | [],k=>by rw [ey,List.append_nil];rfl
 | d :: ds,k=>by
  have ih:=tY l ds (k.tell 2 d.index (bF l d.index) ⟨#[]⟩);show (k.tell 2 d.index (bF l d.index) ⟨#[]⟩).tells (nB l ds)=_;rw [ih,ey];show (⟨k.tree,k.mods,k.loaded,(k.evs++[_])++ey l (k.evs++[_]).length ds,k.top⟩:Ker)=_;rw [List.append_assoc,List.length_append,List.length_singleton];rfl
theorem nC (k:Ker) (d:Dev):(k.remove d).1=(k.withT (fp k.tree d.index)).tells (nB k.tree (eI k.tree d.index).reverse):=by rw [tY];rfl
section
attribute [local irreducible] PL QL aL ah bg La aV PA
set_option maxRecDepth 20000
def jd (a b:Nat) (k:Ker):Ob:=.box 87 [.sl 10 (k.tree.map Dev.d),.sl 6 (k.mods.map Mod.d),.own a k.loaded.length,.own b k.evs.length,.v (.int .i64 k.top)]
def jI (k:Ker):Ob:=.arr 9 1 (k.loaded.map aU)
def je (k:Ker):Ob:=.arr 69 5 (k.evs.map Evt.d)
def bI (k:Ker):List Ob:=[jd 1 2 k,jI k,je k]
attribute [push_cast] jd jI je bI
theorem rE (m:Mod) (n:ByteArray):ah prog 72 [.agg m.e,.c (.ptr 0 0)] [.box 9 [.v (.string n)]] fun r os=>r = .c (.v (.bool (decide (m.name=n))))∧os=[.box 9 [.v (.string n)]]:=by
 refine aw func72 ntmps72 results72 ?_;push_cast [O,U];repeat' ((first|refine au ?_|refine pif ?_ ?_<;>intro h<;>try exact pN h)<;>push_cast [O,U])
 exact am [0]
theorem E5 {l:List Mod} {n:ByteArray} (h:∀ x ∈ l,decide (x.name=n)=false):aJ l n=none:=by
 unfold aJ;rw [List.find?_eq_none];intro x hx;simpa using h x hx
theorem E6 {l:List Mod} {n:ByteArray} {i:Nat} (hi:i < l.length) (hq:decide ((l.getD i default).name=n)=true) (hpre:∀ x ∈ l.take i,decide (x.name=n)=false):aJ l n=some (l.getD i default):=by
 unfold aJ;rw [List.find?_eq_some_iff_append];refine ⟨hq,l.take i,l.drop (i+1),?_,fun a ha=>by simpa using hpre a ha⟩;rw [ai l hi]
 conv=>lhs;rw [← List.take_append_drop i l,List.drop_eq_getElem_cons hi]
theorem lG (k:Ker) (n:ByteArray) (hl:k.mods.length≤1000000):ah prog 44 [.c (.ptr 0 0),.c (.v (.string n))] (bI k) fun r os=>r = .two (.agg ((aJ k.mods n).getD bW).e) (.c (.v (.bool ((aJ k.mods n).isSome))))∧os=bI k:=by
 have hi:=jY k.mods ac 72 [0] [.box 9 [.v (.string n)]] (fun m=>decide (m.name=n)) ⟨aj,fun x _=>rE x n⟩;refine aw func44 ntmps44 results44 ?_;push_cast [O,U];repeat' ((first|refine au ?_|refine pif ?_ ?_<;>intro h<;>try exact pN h)<;>push_cast [O,U])
 (refine plc [3] (hi) ?_ ?_;push_cast [O,U];rintro r os ⟨j,hk,rfl,rfl⟩;push_cast [O,U]);rcases hk with ⟨rfl,hn⟩|⟨i,rfl,hi2,hq,hpre⟩
 ·have hR:=E5 hn;repeat' ((first|refine au ?_|refine pif ?_ ?_<;>intro h<;>try exact pN h)<;>push_cast [O,U])
  (refine K9 [0,1,2] ?_;push_cast [O,U,hR,Option.getD_none,Option.isSome_none,bW]);repeat' (first|exact rfl|exact aB _|exact trivial|refine ⟨?_,?_⟩)
 ·have hR:=E6 hi2 hq hpre;repeat' ((first|refine au ?_|refine pif ?_ ?_<;>intro h<;>try exact pN h)<;>push_cast [O,U])
  (refine K9 [0,1,2] ?_;push_cast [O,U,hR,Option.getD_some,Option.isSome_some]);repeat' (first|exact rfl|exact aB _|exact trivial|refine ⟨?_,?_⟩)
theorem yL (d:Dev) (p:ByteArray) (hp:p.size≤1000000000) (hd:d.alias_.size≤1000000000):ah prog 138 [.c (.v (.string p)),.c (.ptr 0 0)] [.box 53 d.e] fun r os=>r = .c (.v (.bool (bH p d.alias_)))∧os=[.box 53 d.e]:=by
 have hm:=mg p d.alias_ ac ac;refine aw func138 ntmps138 results138 ?_;push_cast [O,U];repeat' ((first|refine plE [] hm ?_ ?_|refine au ?_|refine pif ?_ ?_<;>intro h<;>try exact pN h)<;>push_cast [O,U])
 exact am [0]
theorem tZ (m:Mod) (d:Dev) (hl:m.aliases.length≤1000000) (hz:∀ p ∈ m.aliases,p.size≤1000000000) (hd:d.alias_.size≤1000000000) :
  ah prog 89 [.agg m.e,.agg d.e] [] fun r os=>r = .c (.v (.bool (dU m d)))∧os=[]:=by
 have hc:=cD m.aliases ac 138 [0] [.box 53 d.e] (fun p=>bH p d.alias_) ⟨aj,fun x hx=>yL d x (hz x hx) hd⟩;refine aw func89 ntmps89 results89 ?_;unfold dU;push_cast [O,U];by_cases h:d.alias_=⟨#[]⟩
 ·repeat' ((first|refine plE [1] hc ?_ ?_|refine au ?_|refine pif ?_ ?_<;>intro h<;>try exact pN h)<;>push_cast [O,U,h,ne_eq,not_true_eq_false])
  (refine K9 [] ?_;push_cast [O,U,h])
 ·repeat' ((first|refine plE [1] hc ?_ ?_|refine au ?_|refine pif ?_ ?_<;>intro h<;>try exact pN h)<;>push_cast [O,U,h,ne_eq,not_false_eq_true])
  (refine K9 [] ?_;push_cast [O,U,h])
end
theorem HH:(prog.info? 9).map (fun i=>(i.zero,i.size,i.bytes))=some (some (Value.string ByteArray.empty),1,16):=aj
set_option maxRecDepth 1000000 in
theorem yM (n:Nat) (w:World) (hn:n≤1099511627776) :
  Calls prog 128 #[.slice none 0 0,.int .i64 (n:Int)] w fun e w'=>∃ vs,e = .returned vs∧w'.ownsRow w.heap.size 9 1 vs 0 []∧Ext No w w':=by
 by_cases h0:n=0
 ·subst h0
  go_enter func128,ntmps128
  go_wp2
  go_ret
  exact ⟨_,rfl,uv _ _ _ _,Ext.refl _ _⟩
 ·obtain ⟨i,hi,hz,hs,hb⟩:=info_parts HH;have hrun:=Lib.run_append_nil_zeros (P:=prog) w 31 3 31 9 i _ .i64 .i64 underlying31 underlying3 hi hz n ac (by rw [hs];decide) ac (by rw [hb];omega);have hown:(w.drew.alloc (.cells (Builtin.zeroCells (Value.string ByteArray.empty).cells n++Builtin.zeroCells (Value.string ByteArray.empty).cells (grownCap w n 0 9 - n)) 9)).ownsRow w.heap.size 9 1 (.slice (some ⟨w.heap.size,0,none⟩) 0 (grownCap w n 0 9)) 0 []:=by
   have hge:=grownCap_ge w n 0 9;have hcm:grownCap w n 0 9≤maxLen:=grownCap_le_maxLen w n 0 9 (by simp only [maxLen];omega);refine ⟨rfl,.inr ⟨w.heap.size,_,_,rfl,Nat.le_refl _,heap_alloc_new w.drew _,Nat.zero_le _,hcm,?_,by simp⟩⟩;simp only [Array.size_append,size_zeroCells];show n * 1+(grownCap w n 0 9 - n) * 1=_;omega
  have hE:Ext No w (w.drew.alloc (.cells (Builtin.zeroCells (Value.string ByteArray.empty).cells n++Builtin.zeroCells (Value.string ByteArray.empty).cells (grownCap w n 0 9 - n)) 9)):=(Ext.refl No w).drew.alloc _;generalize w.drew.alloc (.cells (Builtin.zeroCells (Value.string ByteArray.empty).cells n++Builtin.zeroCells (Value.string ByteArray.empty).cells (grownCap w n 0 9 - n)) 9)=W1 at hrun hown hE;have hcap:=grownCap_ge w n 0 9;generalize grownCap w n 0 9=cap at hrun hown hcap;have HR:=Lib.hid hrun;have HO:=Lib.hid hown;have HE:=Lib.hid hE;clear hrun hown hE hi hz hs hb
  go_enter func128,ntmps128
  go_wp2_with (at_builtin;refine Lib.wpList_append_run _ rfl (.tmp 20) (.tmp 21) 31 3 rfl (.slice none 0 0) (.int .i64 (n:Int)) rfl rfl _ W1 HR.out ?_)
  go_ret
  exact ⟨_,rfl,HO.out,HE.out⟩
theorem yN (n:Nat) (hn:n≤1000000000) :
  ah prog 128 [.c (.v (.slice none 0 0)),.c (.v (.int .i64 n))] [] fun r os=>r = .c (.own 0 0)∧os=[.arr 9 1 []]:=fun Γ w xs hm hx=>by
 have hxs:=lz (vs:=[.slice none 0 0,.int .i64 (n:Int)]) hx;rw [hxs];refine (yM n w ac).mono ?_;rintro e w' ⟨v,rfl,hrow,hE⟩;have hS:=bS.of_ext hE;have hn0:Γ.n=0:=hm.n;obtain ⟨_,h2⟩:=hrow;have fin:∀ (b c:Nat) (v:Value),RO w' (Γ.push b c) Γ.n (.arr 9 1 []) → (0 < c → w.heap.size≤b) → iJ (Γ.push b c) Γ.n 0 v →
   ∃ r os' Γ' y,Ending.returned v = .returned y∧(r = .c (.own 0 0)∧os'=[.arr 9 1 []])∧RP w' Γ' r y∧([]:List Ob).length≤os'.length∧bz Γ' os' w'∧cq ([]:List Ob).length Γ w Γ' w':=by
  intro b c v hro hb hrep;rw [hn0] at hrep;exact ⟨_,_,Γ.push b c,v,rfl,⟨rfl,rfl⟩,⟨by simp [G.push,hn0],hrep⟩,by simp,hm.push hS _ b c hro hb,cz hm hE b c hb (Nat.zero_le _)⟩
 rcases h2 with ⟨rfl,_⟩|⟨g,cap,cur,rfl,hb,hg,_,hcm,hsz,_⟩
 ·exact fin 0 0 _ ⟨by simp,ac,fun _=>rfl,fun h=>absurd h (by simp [G.push,ax])⟩ (fun h=>absurd h ac) (.inl ⟨by simp [G.push,ax],⟨none,rfl⟩,rfl⟩)
 ·rcases Nat.eq_zero_or_pos cap with h0|h0
  ·subst h0;exact fin 0 0 _ ⟨by simp,ac,fun _=>rfl,fun h=>absurd h (by simp [G.push,ax])⟩ (fun h=>absurd h ac) (.inl ⟨by simp [G.push,ax],⟨_,rfl⟩,rfl⟩)
  ·refine fin g cap _ ⟨by simp,ac,fun _=>rfl,fun _=>⟨cur,by simp only [G.push,ax];exact hg,by simp only [G.push,ax];exact hsz,by simp,by simp only [G.push,ax];exact hcm,by simp [ay]⟩⟩ (fun _=>hb) (.inr ⟨by simp [G.push,ax,h0],by simp [G.push,ax],by simp⟩)
section
attribute [local irreducible] PL QL aL ah bg La aV PA
set_option maxRecDepth 20000
theorem pD (l:List Evt) (hl:l.length≤1000000000) :
  ah prog 58 [.c (.sl 5 (l.map Evt.d))] [] fun r os=>r = .c (.own 0 l.length)∧os=[.arr 69 5 (l.map Evt.d)]:=by
 refine jw (R:=fun r os=>(r = .c (.own 0 l.length)∧os=[.arr 69 5 (l.map Evt.d)])∨(r = .c (.v (.slice none 0 0))∧os=[]∧l=[])) 69 5 ac ?_ (by
  rintro r os (h|⟨rfl,rfl,rfl⟩)
  ·exact .inl h
  ·exact .inr ⟨rfl,rfl,rfl⟩)
 by_cases h0:l=[]
 ·subst h0;refine iK (l1:=[]) (l2:=[]) fun A c=>?_
  cases A with
  | none =>
   refine ah.mono (R:=fun r os=>r = .c (.v (.slice none 0 0))∧os=[]) ?_ (fun r os h=>.inr ⟨h.1,h.2,rfl⟩);refine aw func58 ntmps58 results58 ?_;push_cast [O,U];repeat' ((first|refine au ?_|refine pif ?_ ?_<;>intro h<;>try exact pN h)<;>push_cast [O,U])
   exact am []
  | some a =>
   refine ah.mono (R:=fun r os=>r = .c (.own 0 0)∧os=[.arr 69 5 []]) ?_ (fun r os h=>.inl h);refine aw func58 ntmps58 results58 ?_;push_cast [O,U];repeat' ((first|refine au ?_|refine pif ?_ ?_<;>intro h<;>try exact pN h)<;>push_cast [O,U])
   exact am [0]
 ·have h1:0 < l.length:=List.length_pos_iff.2 h0;refine ah.mono (R:=fun r os=>r = .c (.own 0 l.length)∧os=[.arr 69 5 (l.map Evt.d)]) ?_ (fun r os h=>.inl h);refine aw func58 ntmps58 results58 ?_;push_cast [O,U];repeat' ((first|refine au ?_|refine pif ?_ ?_<;>intro h<;>try exact pN h)<;>push_cast [O,U])
  exact am [0]
set_option maxRecDepth 20000
set_option maxHeartbeats 4000000 in
theorem u5 (A B C:List ByteArray) (hA:A.length≤1000000) (hB:B.length≤1000000) (hC:C.length≤1000000) :
  ah prog 77 [.c (.sl 1 [[D.sl 1 (A.map aU)],[D.sl 1 (B.map aU)],[D.sl 1 (C.map aU)]])] [] fun r os=>r = .c (.own 0 ((A++B++C).length))∧os=[.arr 9 1 ((A++B++C).map aU)]:=by
 refine aw func77 ntmps77 results77 ?_;push_cast [O,U];have cB:aH 12 [25,26,27]:=trivial;repeat' ((first|refine ae ?_|refine pif ?_ ?_<;>intro h<;>try exact pN h)<;>push_cast [O,U])
 (apply ap (α:=Nat) 12 [25,26,27] (fun k=>[(11,.c (.v (.int .i64 k))),(3,.c (.v (.int .i64 (if k=0 then 0 else if k=1 then (A.length:Int) else if k=2 then A.length+B.length else A.length+B.length+C.length))))]) (fun k=>[]) (fun k=>k≤3) (fun k=>3 - k) (0);(focus ((try push_cast [O,U]);rfl));(focus exact ac);(focus ((refine weak_fg ?_;try push_cast [O,U]))));intro k hk;have h3:k=0∨k=1∨k=2∨k=3:=ac;rcases h3 with rfl|rfl|rfl|rfl
 ·push_cast [O,U];repeat' ((first|refine ae ?_|refine pif ?_ ?_<;>intro h<;>try exact pN h)<;>push_cast [O,U])
  exact ⟨1,ac,aA,ac⟩
 ·push_cast [O,U];repeat' ((first|refine ae ?_|refine pif ?_ ?_<;>intro h<;>try exact pN h)<;>push_cast [O,U])
  exact ⟨2,ac,aA,ac⟩
 ·push_cast [O,U];repeat' ((first|refine ae ?_|refine pif ?_ ?_<;>intro h<;>try exact pN h)<;>push_cast [O,U])
  exact ⟨3,ac,aA,ac⟩
 ·have hg:=yN (A.length+B.length+C.length) ac;push_cast [O,U];repeat' ((first|refine plE [] hg ?_ ?_|refine ae ?_|refine pif ?_ ?_<;>intro h<;>try exact pN h)<;>push_cast [O,U])
  (apply ap (α:=Nat) 12 [25,26,27] (fun k=>[(27,.c (.v (.int .i64 k))),(6,.c (.own 0 (if k=0 then 0 else if k=1 then A.length else if k=2 then A.length+B.length else A.length+B.length+C.length)))]) (fun k=>[(0,.arr 9 1 (if k=0 then [] else if k=1 then A.map aU else if k=2 then (A++B).map aU else (A++B++C).map aU))]) (fun k=>k≤3) (fun k=>3 - k) (0);(focus ((try push_cast [O,U]);rfl));(focus exact ac);(focus ((refine weak_fg ?_;try push_cast [O,U]))));intro k hk;have h3:k=0∨k=1∨k=2∨k=3:=ac;rcases h3 with rfl|rfl|rfl|rfl
  ·push_cast [O,U];repeat' ((first|refine ae ?_|refine pif ?_ ?_<;>intro h<;>try exact pN h)<;>push_cast [O,U])
   exact ⟨1,ac,aA,ac⟩
  ·push_cast [O,U];repeat' ((first|refine ae ?_|refine pif ?_ ?_<;>intro h<;>try exact pN h)<;>push_cast [O,U])
   exact ⟨2,ac,aA,ac⟩
  ·push_cast [O,U];repeat' ((first|refine ae ?_|refine pif ?_ ?_<;>intro h<;>try exact pN h)<;>push_cast [O,U])
   exact ⟨3,ac,aA,ac⟩
  ·push_cast [O,U];repeat' ((first|refine ae ?_|refine pif ?_ ?_<;>intro h<;>try exact pN h)<;>push_cast [O,U])
   (refine K9 [0] ?_;push_cast [O,U]);all_goals omega
set_option maxRecDepth 20000
def pT (m:Mod):Bool:=decide (m.aliases.length≤16) && decide (m.needs.length≤16) && decide (m.pre.length≤16) && decide (m.post.length≤16)
def kb (m:Mod):Bool:=pT m && !(m.aliases.any fun p=>decide (cA p≠0)) && validS m.name && !((m.needs++m.pre++m.post).any fun s=>!validS s)
structure rF (m:Mod):Prop where
 name:Fit m.name
 als:∀ s ∈ m.aliases,Fit s
 ne:∀ s ∈ m.needs,Fit s
 pr:∀ s ∈ m.pre,Fit s
 po:∀ s ∈ m.post,Fit s
 l1:m.aliases.length≤9223372036854775807
 l2:m.needs.length≤9223372036854775807
 l3:m.pre.length≤9223372036854775807
 l4:m.post.length≤9223372036854775807
theorem yO (p:ByteArray) (hp:Fit p):ah prog 74 [.c (.v (.string p))] [] fun r os=>r = .c (.v (.bool (decide (cA p≠0))))∧os=[]:=by
 have hc:=BQ p hp;refine aw func74 ntmps74 results74 ?_;push_cast [O,U];repeat' ((first|refine plE [] hc ?_ ?_|refine au ?_|refine pif ?_ ?_<;>intro h<;>try exact pN h)<;>push_cast [O,U])
 exact am []
theorem yP (p:ByteArray) (hp:Fit p):ah prog 78 [.c (.v (.string p))] [] fun r os=>r = .c (.v (.bool (!validS p)))∧os=[]:=by
 have hc:=dt p hp;refine aw func78 ntmps78 results78 ?_;push_cast [O,U];repeat' ((first|refine plE [] hc ?_ ?_|refine au ?_|refine pif ?_ ?_<;>intro h<;>try exact pN h)<;>push_cast [O,U])
 exact am []
def Ju (m:Mod) (k:Nat):List ByteArray:=if k=0 then m.aliases else if k=1 then m.needs else if k=2 then m.pre else m.post
set_option maxHeartbeats 8000000 in
theorem xf (m:Mod) (hm:rF m):ah prog 45 [.agg m.e] [] fun r os=>r = .c (.v (.bool (kb m)))∧os=[]:=by
 refine aw func45 ntmps45 results45 ?_;have q1:=hm.l1;have q2:=hm.l2;have q3:=hm.l3;have q4:=hm.l4;push_cast [O,U];have cB:aH 5 [13,14,15,29]:=trivial;repeat' ((first|refine ae ?_|refine pif ?_ ?_<;>intro h<;>try exact pN h)<;>push_cast [O,U])
 (apply ap (α:=Nat) 5 [13,14,15,29] (fun k=>[(15,.c (.v (.int .i64 k)))]) (fun k=>[]) (fun k=>k≤4∧∀ j,j < k → (Ju m j).length≤16) (fun k=>4 - k) (0);(focus ((try push_cast [O,U]);rfl));(focus exact ⟨ac,fun j hj=>by omega⟩);(focus ((refine weak_fg ?_;try push_cast [O,U]))));rintro k ⟨hk,hpre⟩;have hlast:(¬ pT m=true → kb m=false):=fun h=>by unfold kb;rw [Bool.not_eq_true] at h;rw [h];rfl
 have h5:k=0∨k=1∨k=2∨k=3∨k=4:=ac;have hstep:(Ju m k).length≤16 → ∀ j,j < k+1 → (Ju m j).length≤16:=fun h j hj=>by
  rcases Nat.lt_or_ge j k with h'|h'
  ·exact hpre j h'
  ·rw [show j=k by omega];exact h
 rcases h5 with rfl|rfl|rfl|rfl|rfl
 ·push_cast [O,U];by_cases hl:m.aliases.length≤16
  ·repeat' ((first|refine ae ?_|refine pif ?_ ?_<;>intro h<;>try exact pN h)<;>push_cast [O,U])
   exact ⟨1,⟨ac,hstep hl⟩,aA,ac⟩
  ·have hf:=hlast (by unfold pT;rw [decide_eq_false hl];simp);have hl2:(16:Int) < (m.aliases.length:Int):=ac;repeat' ((first|refine ae ?_|refine pif ?_ ?_<;>intro h<;>try exact pN h)<;>push_cast [O,U,hl2])
   (refine K9 [] ?_;push_cast [O,U,hf])
 ·push_cast [O,U];by_cases hl:m.needs.length≤16
  ·repeat' ((first|refine ae ?_|refine pif ?_ ?_<;>intro h<;>try exact pN h)<;>push_cast [O,U])
   exact ⟨2,⟨ac,hstep hl⟩,aA,ac⟩
  ·have hf:=hlast (by unfold pT;rw [decide_eq_false hl];simp);have hl2:(16:Int) < (m.needs.length:Int):=ac;repeat' ((first|refine ae ?_|refine pif ?_ ?_<;>intro h<;>try exact pN h)<;>push_cast [O,U,hl2])
   (refine K9 [] ?_;push_cast [O,U,hf])
 ·push_cast [O,U];by_cases hl:m.pre.length≤16
  ·repeat' ((first|refine ae ?_|refine pif ?_ ?_<;>intro h<;>try exact pN h)<;>push_cast [O,U])
   exact ⟨3,⟨ac,hstep hl⟩,aA,ac⟩
  ·have hf:=hlast (by unfold pT;rw [decide_eq_false hl];simp);have hl2:(16:Int) < (m.pre.length:Int):=ac;repeat' ((first|refine ae ?_|refine pif ?_ ?_<;>intro h<;>try exact pN h)<;>push_cast [O,U,hl2])
   (refine K9 [] ?_;push_cast [O,U,hf])
 ·push_cast [O,U];by_cases hl:m.post.length≤16
  ·repeat' ((first|refine ae ?_|refine pif ?_ ?_<;>intro h<;>try exact pN h)<;>push_cast [O,U])
   exact ⟨4,⟨ac,hstep hl⟩,aA,ac⟩
  ·have hf:=hlast (by unfold pT;rw [decide_eq_false hl];simp);have hl2:(16:Int) < (m.post.length:Int):=ac;repeat' ((first|refine ae ?_|refine pif ?_ ?_<;>intro h<;>try exact pN h)<;>push_cast [O,U,hl2])
   (refine K9 [] ?_;push_cast [O,U,hf])
 ·have g1:m.aliases.length≤16:=hpre 0 ac;have g2:m.needs.length≤16:=hpre 1 ac;have g3:m.pre.length≤16:=hpre 2 ac;have g4:m.post.length≤16:=hpre 3 ac;have hfew:pT m=true:=by unfold pT;rw [decide_eq_true g1,decide_eq_true g2,decide_eq_true g3,decide_eq_true g4];rfl
  have hmod:kb m=(!(m.aliases.any fun p=>decide (cA p≠0)) && validS m.name && !((m.needs++m.pre++m.post).any fun s=>!validS s)):=by unfold kb;rw [hfew,Bool.true_and]
  have c1:=cD m.aliases ac 74 [] [] (fun p=>decide (cA p≠0)) ⟨aj,fun x hx=>yO x (hm.als x hx)⟩;have c2:=dt m.name hm.name;have c3:=u5 m.needs m.pre m.post ac ac ac;have c4:=cD (m.needs++m.pre++m.post) (by simp only [List.length_append];omega) 78 [] [] (fun s=>!validS s) ⟨aj,fun x hx=>yP x (by
   rcases List.mem_append.1 hx with hx|hx
   ·rcases List.mem_append.1 hx with hx|hx
    ·exact hm.ne x hx
    ·exact hm.pr x hx
   ·exact hm.po x hx)⟩
  rw [hmod];obtain ⟨A1,hA1⟩:∃ A1,(m.aliases.any fun p=>decide (cA p≠0))=A1:=⟨_,rfl⟩
  obtain ⟨A2,hA2⟩:∃ A2,validS m.name=A2:=⟨_,rfl⟩
  obtain ⟨cc,hcc⟩:∃ cc,m.needs++m.pre++m.post=cc:=⟨_,rfl⟩
  rw [hcc] at c3 c4 ⊢;obtain ⟨A3,hA3⟩:∃ A3,(cc.any fun s=>!validS s)=A3:=⟨_,rfl⟩
  have htk:=List.take_of_length_le (l:=cc.map aU) (i:=cc.length) (by simp);rw [hA1] at c1 ⊢;rw [hA2] at c2 ⊢;rw [hA3] at c4 ⊢;push_cast [O,U];cases A1 with
  | true =>
   repeat' ((first|refine plE [] c1 ?_ ?_|refine ae ?_|refine pif ?_ ?_<;>intro h<;>try exact pN h)<;>push_cast [O,U])
   exact am []
  | false =>
   cases A2 with
   | false =>
    repeat' ((first|refine plE [] c1 ?_ ?_|refine plE [] c2 ?_ ?_|refine ae ?_|refine pif ?_ ?_<;>intro h<;>try exact pN h)<;>push_cast [O,U])
    exact am []
   | true =>
    repeat' ((first|refine plE [] c1 ?_ ?_;focus (push_cast [O,U,htk];done)|refine plE [] c2 ?_ ?_;focus (push_cast [O,U,htk];done)|refine plE [] c3 ?_ ?_;focus (push_cast [O,U,htk];done)|(refine aW true [] rfl rfl aj (c4) ?_ ?_ ?_;push_cast [O,U,htk];(intro _ r os;rintro ⟨rfl,rfl⟩;push_cast [O,U,htk]);rintro r os ⟨rfl,rfl⟩;refine an ?_)|refine ae ?_|refine pif ?_ ?_<;>intro h<;>try exact pN h)<;>push_cast [O,U,htk])
    exact am []
set_option maxRecDepth 20000
def mr:List Dev → Int → Int
 | [],_ => -1
 | d :: l,n=>if d.index=n then 0 else if mr l n < 0 then -1 else mr l n+1
theorem dY (n:Int):∀ l:List Dev,(mr l n = -1∧aG l n=none)∨∃ i:Nat,mr l n=i∧i < l.length∧aG l n=some (l.getD i default)
 | []=>.inl ⟨rfl,rfl⟩
 | d :: l=>by
  by_cases h:d.index=n
  ·exact .inr ⟨0,by simp [mr,h],by simp,by simp [aG,h]⟩
  ·have hf:aG (d :: l) n=aG l n:=by unfold aG;rw [List.find?_cons_of_neg (by simpa using h)]
   rw [hf,mr,if_neg h];rcases dY n l with ⟨h1,h2⟩|⟨i,h1,h2,h3⟩
   ·exact .inl ⟨by rw [h1];rfl,h2⟩
   ·exact .inr ⟨i+1,by rw [h1,if_neg ac];omega,by simp only [List.length_cons];omega,by rw [h3];rfl⟩
theorem t6 {n:Int} {b:List Dev}:∀ {a:List Dev},(∀ d ∈ a,d.index≠n) → mr (a++b) n=if mr b n < 0 then -1 else a.length+mr b n
 | [],_=>by
  rcases dY n b with ⟨h1,_⟩|⟨i,h1,_⟩
  ·simp [h1]
  ·rw [List.nil_append,h1,if_neg ac];simp
 | x :: a,h=>by
  rw [List.cons_append,mr,if_neg (h x (by simp)),t6 fun d hd=>h d (by simp [hd])];split
  ·simp
  ·rw [if_neg ac,List.length_cons];omega
theorem HI {l:List Dev} {n:Int} {k:Nat} (hk:k < l.length) (h0:∀ d ∈ l.take k,d.index≠n) (h:(l.getD k default).index=n):mr l n=k:=by
 have e:l=l.take k++l[k] :: l.drop (k+1):=by rw [← List.drop_eq_getElem_cons hk,List.take_append_drop]
 rw [ai l hk] at h;rw [e,t6 h0,mr,if_pos h,List.length_take];simp;omega
theorem BR {l:List Dev} {n:Int} (h:∀ d ∈ l,d.index≠n):mr l n = -1:=by
 rcases dY n l with ⟨h1,_⟩|⟨i,_,h2,h3⟩
 ·exact h1
 ·rw [dQ.2 h] at h3;cases h3
theorem KC {l:List Dev} {n:Int} {k:Nat} (hk:k < l.length) (h0:∀ d ∈ l.take k,d.index≠n) (h:¬ (l.getD k default).index=n):∀ d ∈ l.take (k+1),d.index≠n:=by
 intro y hy;rw [List.take_succ_eq_append_getElem hk,List.mem_append,List.mem_singleton] at hy;rcases hy with hy|hy
 ·exact h0 y hy
 ·rw [hy,← ai l hk];exact h
set_option maxHeartbeats 1000000 in
theorem fl (l:List Dev) (n:Int) (hl:l.length≤1000000000) :
  ah prog 209 [.c (.sl 10 (l.map Dev.d)),.c (.v (.int .i64 n))] [] fun r os=>r = .c (.v (.int .i64 (mr l n)))∧os=[]:=by
 refine aw func209 ntmps209 results209 ?_;push_cast [O,U];have cB:aH 6 []:=trivial;repeat' ((first|refine ae ?_|refine pif ?_ ?_<;>intro h<;>try exact pN h)<;>push_cast [O,U])
 (apply ap (α:=Nat) 6 [] (fun k=>[(5,.c (.v (.int .i64 k)))]) (fun k=>[]) (fun k=>k≤l.length∧∀ d ∈ l.take k,d.index≠n) (fun k=>l.length - k) (0);(focus ((try push_cast [O,U]);rfl));(focus exact ⟨ac,by simp⟩);(focus ((refine weak_fg ?_;try push_cast [O,U]))));rintro k ⟨hk,h0⟩;push_cast [O,U];by_cases hlt:k < l.length
 ·by_cases hn:(l.getD k default).index=n
  ·have hg:=HI hlt h0 hn;have hn':=eq_true hn;repeat' ((first|refine ae ?_|refine pif ?_ ?_<;>intro h<;>try exact pN h)<;>push_cast [O,U,hn'])
   (refine K9 [] ?_;push_cast [O,U]);all_goals rw [hg]
  ·have h1:=KC hlt h0 hn;repeat' ((first|refine ae ?_|refine pif ?_ ?_<;>intro h<;>try exact pN h)<;>push_cast [O,U,hn])
   exact ⟨k+1,⟨ac,h1⟩,aA,ac⟩
 ·rw [List.take_of_length_le ac] at h0;have hg:=BR h0;repeat' ((first|refine ae ?_|refine pif ?_ ?_<;>intro h<;>try exact pN h)<;>push_cast [O,U])
  (refine K9 [] ?_;push_cast [O,U]);all_goals rw [hg]
set_option maxHeartbeats 1000000 in
theorem yQ (l:List Dev) (n:Int) (hl:l.length≤1000000000) :
  ah prog 170 [.agg (trE l),.c (.v (.int .i64 n))] [] fun r os=>r = .two (.agg ((aG l n).getD default).e) (.c (.v (.bool ((aG l n).isSome))))∧os=[]:=by
 have hi:=fl l n hl;refine aw func170 ntmps170 results170 ?_;rcases dY n l with ⟨h1,h2⟩|⟨i,h1,h2,h3⟩
 ·rw [h1] at hi;rw [h2];push_cast [O,U];repeat' ((first|refine plE [] hi ?_ ?_|refine au ?_|refine pif ?_ ?_<;>intro h<;>try exact pN h)<;>push_cast [O,U])
  (refine K9 [] ?_;push_cast [O,U]);all_goals exact ⟨⟨rfl,rfl,rfl,rfl,rfl,rfl,rfl,rfl,rfl,rfl⟩,rfl⟩
 ·rw [h1] at hi;rw [h3];push_cast [O,U];repeat' ((first|refine plE [] hi ?_ ?_|refine au ?_|refine pif ?_ ?_<;>intro h<;>try exact pN h)<;>push_cast [O,U])
  (refine K9 [] ?_;push_cast [O,U]);all_goals exact ⟨⟨rfl,rfl,rfl,rfl,rfl,rfl,rfl,rfl,rfl,rfl⟩,rfl⟩
set_option maxRecDepth 20000
set_option maxHeartbeats 1000000 in
theorem kV (l:List Dev) (n:Int) (hl:l.length≤1000000) :
  ah prog 131 [.agg (trE l),.c (.v (.int .i64 n))] [] fun r os=>r = .c (.sl 10 ((dy l n).map Dev.d))∧os=[]:=by
 refine aw func131 ntmps131 results131 ?_;push_cast [O,U];have cB:aH 8 []:=trivial;repeat' ((first|refine ae ?_|refine pif ?_ ?_<;>intro h<;>try exact pN h)<;>push_cast [O,U])
 refine aF (dm 5 53 10 ac (by push_cast [O,U])) ?_;push_cast [O,U];(apply ap (α:=List Dev × Int) 8 [] (fun x=>[(1,.c (.v (.int .i64 x.2))),(5,.c (.own 1 (x.1.length)))]) (fun x=>[(1,.arr 53 10 (x.1.map Dev.d))]) (fun x=>x.1++cK l (l.length - x.1.length) x.2=dy l n∧x.1.length≤l.length) (fun x=>l.length - x.1.length) (([],n));(focus ((try push_cast [O,U]);rfl));(focus exact ⟨by simp [dy],by simp⟩);(focus ((refine weak_fg ?_;try push_cast [O,U]))));rintro ⟨acc,m⟩ ⟨h1,h2⟩;simp only at h1 h2;push_cast [O,U];by_cases hlt:acc.length < l.length
 ·have hf:=yQ l m ac;obtain ⟨k,hk⟩:∃ k,l.length - acc.length=k+1:=⟨l.length - acc.length - 1,ac⟩
  rw [hk] at h1;cases hx:aG l m with
  | none =>
   simp only [hx,Option.getD_none,Option.isSome_none] at hf;rw [cK,hx] at h1;simp only [List.append_nil] at h1;repeat' ((first|refine plE [] hf ?_ ?_|refine ae ?_|refine pif ?_ ?_<;>intro h<;>try exact pN h)<;>push_cast [O,U])
   (refine K9 [] ?_;push_cast [O,U]);all_goals rw [h1]
  | some d =>
   simp only [hx,Option.getD_some,Option.isSome_some] at hf;rw [dR hx] at h1;repeat' ((first|refine plE [] hf ?_ ?_|refine ae ?_|refine pif ?_ ?_<;>intro h<;>try exact pN h)<;>push_cast [O,U])
   refine ⟨(acc++[d],d.parent),⟨?_,by simp only [List.length_append,List.length_cons,List.length_nil];omega⟩,aA,by simp only [List.length_append,List.length_cons,List.length_nil];omega⟩;simp only [List.length_append,List.length_cons,List.length_nil,List.append_assoc,List.singleton_append];rw [show l.length - (acc.length+(0+1))=k by omega];exact h1
 ·have hk:l.length - acc.length=0:=ac;rw [hk,cK,List.append_nil] at h1;repeat' ((first|refine ae ?_|refine pif ?_ ?_<;>intro h<;>try exact pN h)<;>push_cast [O,U])
  (refine K9 [] ?_;push_cast [O,U]);all_goals rw [h1]
set_option maxHeartbeats 1000000 in
theorem jJ (l:List Dev) (n:Int) (hl:l.length≤1000000) :
  ah prog 82 [.agg (trE l),.c (.v (.int .i64 n))] [] fun r os=>r = .c (.own 0 ((bj l n).length))∧os=[.arr 9 1 ((bj l n).map aU)]:=by
 have hc:=kV l n hl;have hcl:=lD l n;unfold bj;obtain ⟨c,hcc⟩:∃ c,dy l n=c:=⟨_,rfl⟩
 rw [hcc] at hc hcl ⊢;refine aw func82 ntmps82 results82 ?_;push_cast [O,U];have cB:aH 8 []:=trivial;repeat' ((first|refine plE [] hc ?_ ?_|refine ae ?_|refine pif ?_ ?_<;>intro h<;>try exact pN h)<;>push_cast [O,U])
 refine aF (dm 5 9 1 ac (by push_cast [O,U])) ?_;push_cast [O,U];(apply ap (α:=Nat × List ByteArray) 8 [] (fun x=>[(7,.c (.v (.int .i64 ((x.1:Int) - 1)))),(5,.c (.own 1 (x.2.length)))]) (fun x=>[(1,.arr 9 1 (x.2.map aU))]) (fun x=>x.1≤c.length∧x.2=((c.drop x.1).map Dev.original).reverse) (fun x=>x.1) ((c.length,[]));(focus ((try push_cast [O,U]);rfl));(focus exact ⟨Nat.le_refl _,by simp⟩);(focus ((refine weak_fg ?_;try push_cast [O,U]))));rintro ⟨k,out⟩ ⟨hk,ho⟩;simp only at hk ho;have hol:out.length≤c.length:=by rw [ho,List.length_reverse,List.length_map,List.length_drop];omega
 cases k with
 | zero =>
  rw [List.drop_zero] at ho;push_cast [O,U];repeat' ((first|refine ae ?_|refine pif ?_ ?_<;>intro h<;>try exact pN h)<;>push_cast [O,U])
  (refine K9 [1] ?_;push_cast [O,U]);all_goals rw [ho]
  all_goals simp
 | succ k =>
  have hlt:k < c.length:=ac;have hd:out++[(c.getD k default).original]=((c.drop k).map Dev.original).reverse:=by
   rw [ho,List.drop_eq_getElem_cons hlt,ai c hlt,List.map_cons,List.reverse_cons]
  have hi:((k+1:Nat):Int) - 1=(k:Int):=ac;simp only [hi];push_cast [O,U];repeat' ((first|refine ae ?_|refine pif ?_ ?_<;>intro h<;>try exact pN h)<;>push_cast [O,U])
  exact ⟨(k,out++[(c.getD k default).original]),⟨by simp only;omega,hd⟩,aA,by simp only;omega⟩
end
end Go.Proofs.YtmbbkfffcflfcaaGreatDoor
