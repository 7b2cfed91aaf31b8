/- What the program computes, and the plain laws of it, part 22. -/
import Derived.WideKeyEntry
import Derived.Test.YtmbbkfffcflfcaaGreatDoorT18
import Derived.Test.YtmbbkfffcflfcaaGreatDoorT21
namespace Go.Proofs.YtmbbkfffcflfcaaGreatDoor
open List renaming reduceReplicate → rR
open Go.Proofs.Tryz
set_option linter.unusedSimpArgs false
set_option linter.unusedVariables false
open Go.RowKit
open IntWalk renaming iteOmega → O, toNatUp → U
section
attribute [local irreducible] PL QL aL ah bg La aV PA
set_option maxRecDepth 20000
def u0 (p:ByteArray):PV:=.two (if cA p=0 then .c (.sl 1 (Au ((eH p).getD []))) else .c (.v (.slice none 0 0))) (.c (.v (.int .i64 (cA p))))
set_option maxRecDepth 20000 in
set_option maxHeartbeats 4000000 in
theorem rx (p:ByteArray) (hf:p.size≤9223372036854775807):ah prog 59 [.c (.v (.string p))] [] fun r os=>r=u0 p∧os=[]:=by
 have ht:=ou p hf;refine aw func59 ntmps59 results59 ?_;push_cast [-rR,O,U];unfold u0;by_cases h1:256 < p.size
 ·have hR:cA p=21:=by unfold cA;rw [if_pos h1]
  have h1':(256:Int) < (p.size:Int):=ac;repeat' ((first|refine au ?_|refine pif ?_ ?_<;>intro h<;>try exact pN h)<;>push_cast [-rR,O,U,h1'])
  (refine K9 [] ?_;push_cast [-rR,O,U,hR])
 have h1':¬ (256:Int) < (p.size:Int):=ac;by_cases h2:p.data.toList.all bR=true
 case neg =>
  have h2':=Bool.eq_false_iff.2 h2;have hR:cA p=20:=by unfold cA;rw [if_neg h1,if_pos (by rw [h2'];rfl)]
  have hts:fJ p=false:=by unfold fJ;rw [h2'];rfl
  rw [hts] at ht;repeat' ((first|refine plE [] ht ?_ ?_|refine au ?_|refine pif ?_ ?_<;>intro h<;>try exact pN h)<;>push_cast [-rR,O,U,h1'])
  (refine K9 [] ?_;push_cast [-rR,O,U,hR])
 have hts:fJ p=true:=by unfold fJ;rw [h2,decide_eq_true ac];rfl
 rw [hts] at ht;have ha:=BK p ac (kO h2) fun i hi=>BP p i hi ac (kO h2)
 cases hq:eH p with
 | none =>
  have hR:cA p=20:=by unfold cA;rw [if_neg h1,if_neg (by rw [h2];simp),hq]
  rw [hq] at ha;repeat' ((first|refine plE [] ht ?_ ?_|(refine plc [0] (ha) ?_ ?_;push_cast [-rR,O,U,h1'];rintro r os ⟨⟨i,rfl⟩,rfl⟩)|refine au ?_|refine pif ?_ ?_<;>intro h<;>try exact pN h)<;>push_cast [-rR,O,U,h1'])
  (refine K9 [] ?_;push_cast [-rR,O,U,hR])
 | some l =>
  have hR:cA p=0:=by unfold cA;rw [if_neg h1,if_neg (by rw [h2];simp),hq]
  rw [hq] at ha;repeat' ((first|refine plE [] ht ?_ ?_|(refine plc [0] (ha) ?_ ?_;push_cast [-rR,O,U,h1'];rintro r os ⟨⟨i,rfl⟩,rfl⟩)|refine au ?_|refine pif ?_ ?_<;>intro h<;>try exact pN h)<;>push_cast [-rR,O,U,h1'])
  (refine K9 [] ?_;push_cast [-rR,O,U,hR]);rfl
theorem BQ (p:ByteArray) (hf:p.size≤9223372036854775807):ah prog 75 [.c (.v (.string p))] [] fun r os=>r = .c (.v (.int .i64 (cA p)))∧os=[]:=by
 have hp:=rx p hf;unfold u0 at hp;refine aw func75 ntmps75 results75 ?_;push_cast [-rR,O,U];by_cases h:cA p=0
 ·rw [if_pos h] at hp;repeat' ((first|refine plE [] hp ?_ ?_|refine au ?_|refine pif ?_ ?_<;>intro h<;>try exact pN h)<;>push_cast [-rR,O,U])
  (refine K9 [] ?_;push_cast [-rR,O,U])
 ·rw [if_neg h] at hp;repeat' ((first|refine plE [] hp ?_ ?_|refine au ?_|refine pif ?_ ?_<;>intro h<;>try exact pN h)<;>push_cast [-rR,O,U])
  (refine K9 [] ?_;push_cast [-rR,O,U])
set_option maxRecDepth 20000 in
set_option maxHeartbeats 4000000 in
theorem mg (p s:ByteArray) (hf:p.size≤9223372036854775807) (hs:s.size≤9000000000000000000):ah prog 27 [.c (.v (.string p)),.c (.v (.string s))] [] fun r os=>r = .c (.v (.bool (bH p s)))∧os=[]:=by
 have hp:=rx p hf;unfold u0 at hp;refine aw func27 ntmps27 results27 ?_;push_cast [-rR,O,U];have cB:aH 11 [18,19,33,34,35]:=trivial;by_cases h0:cA p=0
 case neg =>
  rw [if_neg h0] at hp;have hR:bH p s=false:=by unfold bH;rw [decide_eq_false h0];rfl
  repeat' ((first|refine plE [] hp ?_ ?_|refine ae ?_|refine pif ?_ ?_<;>intro h<;>try exact pN h)<;>push_cast [-rR,O,U,h0])
  (refine K9 [] ?_;push_cast [-rR,O,U,hR])
 rw [if_pos h0,h0] at hp;repeat' ((first|refine plE [] hp ?_ ?_|refine ae ?_|refine pif ?_ ?_<;>intro h<;>try exact pN h)<;>push_cast [-rR,O,U])
 (apply ap (α:=Nat) 11 [18,19,33,34,35] (fun k=>[(19,.c (.v (.int .i64 k)))]) (fun k=>[]) (fun k=>k≤s.size∧(s.data.toList.take k).all bR=true) (fun k=>s.size - k) (0);(focus ((try push_cast [-rR,O,U]);rfl));(focus exact ⟨ac,rfl⟩);(focus ((refine weak_fg ?_;try push_cast [-rR,O,U]))));rintro k ⟨hk,ha⟩;push_cast [-rR,O,U];by_cases hlt:k < s.size
 ·have bad:bR (s.data.toList.getD k 0)=false → bH p s=false:=fun hx=>by unfold bH;rw [lx hlt hx];simp
  by_cases h1:((s.data.toList.getD k 0).toNat:Int) < 32
  ·have hR:=bad (by unfold bR;rw [decide_eq_false ac];rfl);repeat' ((first|refine ae ?_|refine pif ?_ ?_<;>intro h<;>try exact pN h)<;>push_cast [-rR,O,U,h1])
   (refine K9 [] ?_;push_cast [-rR,O,U,hR])
  ·by_cases h2:(126:Int) < ((s.data.toList.getD k 0).toNat:Int)
   ·have hR:=bad (by unfold bR;rw [decide_eq_false (p:=(s.data.toList.getD k 0).toNat≤126) ac,Bool.and_false]);repeat' ((first|refine ae ?_|refine pif ?_ ?_<;>intro h<;>try exact pN h)<;>push_cast [-rR,O,U,h1,h2])
    (refine K9 [] ?_;push_cast [-rR,O,U,hR])
   ·have e:=nc hlt ha (by unfold bR;rw [decide_eq_true ac,decide_eq_true ac];rfl);repeat' ((first|refine ae ?_|refine pif ?_ ?_<;>intro h<;>try exact pN h)<;>push_cast [-rR,O,U,h1,h2])
    exact ⟨k+1,⟨ac,e⟩,by (refine weak_fg ?_;push_cast [-rR,O,U]),ac⟩
 have hk2:k=s.size:=ac;subst hk2;have he:s.data.toList.take s.size=s.data.toList:=List.take_of_length_le (Nat.le_refl _);rw [he] at ha;obtain ⟨l,hq⟩:∃ l,eH p=some l:=by
  cases hq:eH p with
  | some l=>exact ⟨l,rfl⟩
  | none =>
   unfold cA at h0;rw [hq] at h0;split at h0
   ·cases h0
   ·split at h0<;>cases h0
 have hok:=wR hq;have hp256:p.size≤256:=by
  unfold cA at h0;split at h0
  ·cases h0
  ·omega
 have hll:=tP (Nat.zero_le _) (Nat.zero_le _) (show bE p 0 [] []=some l from hq);have hR:bH p s=l.any fun x=>mat x s.data.toList:=by unfold bH;rw [decide_eq_true h0,ha,hq];rfl
 rw [hq,Option.getD_some,Au];repeat' ((first|refine ae ?_|refine pif ?_ ?_<;>intro h<;>try exact pN h)<;>push_cast [-rR,O,U])
 (apply ap (α:=Nat) 11 [18,19,33,34,35] (fun k=>[(35,.c (.v (.int .i64 k)))]) (fun k=>[]) (fun k=>k≤l.length∧((l.take k).any fun x=>mat x s.data.toList)=false) (fun k=>l.length - k) (0);(focus ((try push_cast [-rR,O,U]);rfl));(focus exact ⟨ac,rfl⟩);(focus ((refine weak_fg ?_;try push_cast [-rR,O,U]))));rintro k ⟨hk,hn⟩;push_cast [-rR,O,U];by_cases hlt:k < l.length
 ·have hx:=hok (l.getD k default) (by rw [ai l hlt];exact List.getElem_mem _);have hm:=uW (l.getD k default) s hx.1 (by have:=hx.2;omega) hs (kO ha);cases hv:mat (l.getD k default) s.data.toList with
  | true =>
   rw [hv] at hm;have hR2:bH p s=true:=by rw [hR,List.any_eq_true];exact ⟨l.getD k default,by rw [ai l hlt];exact List.getElem_mem _,hv⟩
   repeat' ((first|refine plE [] hm ?_ ?_|refine ae ?_|refine pif ?_ ?_<;>intro h<;>try exact pN h)<;>push_cast [-rR,O,U])
   (refine K9 [] ?_;push_cast [-rR,O,U,hR2])
  | false =>
   rw [hv] at hm;have hn2:((l.take (k+1)).any fun x=>mat x s.data.toList)=false:=by
    rw [List.take_succ_eq_append_getElem hlt,List.any_append,hn,← ai l hlt];simp only [List.any_cons,List.any_nil,hv];rfl
   repeat' ((first|refine plE [] hm ?_ ?_|refine ae ?_|refine pif ?_ ?_<;>intro h<;>try exact pN h)<;>push_cast [-rR,O,U])
   exact ⟨k+1,⟨ac,hn2⟩,by (refine weak_fg ?_;push_cast [-rR,O,U]),ac⟩
 ·have hk2:k=l.length:=ac;subst hk2;rw [List.take_length] at hn;rw [hn] at hR;repeat' ((first|refine ae ?_|refine pif ?_ ?_<;>intro h<;>try exact pN h)<;>push_cast [-rR,O,U])
  (refine K9 [] ?_;push_cast [-rR,O,U,hR])
end
def hasN (d:Dev):Bool:=decide (d.kind=2) || decide (d.kind=3)
def dI (d:Dev):Bool:=((decide (1≤d.index) && decide (d.index≤1073741824)) && (decide (0≤d.parent) && decide (d.parent≤1073741824))) && !decide (d.parent=d.index)
def namedM (d:Dev):Bool:=(((validS d.name && validS d.original) && validS d.subsystem) && (decide (d.driver=⟨#[]⟩) || validS d.driver)) && fJ d.alias_
def kindM (d:Dev):Bool:=if d.kind=4 then gV d.name && gV d.original else (decide (1≤d.kind) && decide (d.kind≤3)) && decide (d.name=d.original)
def numberM (d:Dev):Bool:=if hasN d then decide (1≤d.number) && decide (d.number≤1073741824) else decide (d.number=0)
def iz (a:Atr):Bool:=(validS a.name && decide (a.value≠⟨#[]⟩)) && fJ a.value
def iC (l:List Atr):Bool:=(List.range (l.length - 1)).all fun j=>bh (l.getD j default).name (l.getD (j+1) default).name
def attrsB (l:List Atr):Bool:=iC l && l.all iz
def aS (d:Dev):Int:=if !dI d then 32 else if !namedM d then 30 else if !kindM d then 31 else if !numberM d then 32 else if 24 < d.attrs.length then 34 else if !attrsB d.attrs then 33 else if hasN d && !linkS (m9 d.original) then 30 else 0
def bq (d:Dev):ByteArray:=if hasN d then m9 d.original else ⟨#[]⟩
theorem pz {l:List Atr} {k:Nat} (h:∀ j,j < k → bh (l.getD j default).name (l.getD (j+1) default).name=true) (hn:bh (l.getD k default).name (l.getD (k+1) default).name=true):∀ j,j < k+1 → bh (l.getD j default).name (l.getD (j+1) default).name=true:=fun j hj=>by
 by_cases e:j=k
 ·rw [e];exact hn
 ·exact h j ac
theorem wU {l:List Atr} {k:Nat} (hk:l.length≤k+1) (h:∀ j,j < k → bh (l.getD j default).name (l.getD (j+1) default).name=true):iC l=true:=List.all_eq_true.2 fun j hj=>h j (by have:=List.mem_range.1 hj;omega)
theorem wV {l:List Atr} {k:Nat} (hk:k+1 < l.length) (h:bh (l.getD k default).name (l.getD (k+1) default).name=false):iC l=false:=List.all_eq_false.2 ⟨k,List.mem_range.2 ac,by rw [h];decide⟩
theorem ov {s:ByteArray}:(m9 s).size=s.size:=by
 have key:∀ (k:Nat) (l:List UInt8),(Lib.replaceK [33] [47] k l).length=l.length:=by
  intro k;induction k with
  | zero=>intro l;rfl
  | succ k ih =>
   intro l;rw [Lib.replaceK];split
   ·rfl
   ·rename_i h;have hg:=Lib.index_ge l [33];have hl:(Lib.index l [33]).toNat < l.length:=by
     have h':Lib.index l [33] ≠ -1:=by simpa using h
     have lt:∀ l:List UInt8,Lib.index l [33] < l.length∨Lib.index l [33] = -1:=by
      intro l;induction l with
      | nil=>exact .inr rfl
      | cons b l ih =>
       rw [Lib.index];split
       ·exact .inl (by simp only [List.length_cons];omega)
       ·split
        ·exact .inr rfl
        ·rename_i h2;rcases ih with ih|ih
         ·exact .inl (by simp only [List.length_cons];omega)
         ·rw [ih] at h2;simp at h2
     rcases lt l with h2|h2
     ·omega
     ·exact absurd h2 h'
    simp only [List.length_append,List.length_take,ih,List.length_drop,List.length_cons,List.length_nil];omega
 show (Lib.replaceAll s.data.toList [33] [47]).length=_;unfold Lib.replaceAll Lib.replace;rw [if_neg af,key];rfl
def aG (l:List Dev) (n:Int):Option Dev:=l.find? fun d=>decide (d.index=n)
def cK (l:List Dev):Nat → Int → List Dev
 | 0,_=>[]
 | k+1,n=>match aG l n with
  | none=>[]
  | some d=>d :: cK l k d.parent
def dy (l:List Dev) (n:Int):List Dev:=cK l l.length n
def bj (l:List Dev) (n:Int):List ByteArray:=((dy l n).map Dev.original).reverse
def fC (ps:List ByteArray):ByteArray:=ps.foldl (fun s p=>s++⟨#[47]⟩++p) ⟨#[]⟩
def aZ (l:List Dev) (n:Int):ByteArray:=fC (bj l n)
structure Okt (l:List Dev):Prop where
 pos:∀ d ∈ l,1≤d.index
 nodup:(l.map Dev.index).Nodup
 par:∀ (i:Nat) (h:i < l.length),l[i].parent=0∨∃ (j:Nat) (hj:j < i),l[j].index=l[i].parent
 val:∀ d ∈ l,validS d.original=true
 dist:∀ d ∈ l,∀ e ∈ l,bj l d.index=bj l e.index → d=e
theorem eu {l:List Dev} {n:Int} {d:Dev} (h:aG l n=some d):d ∈ l∧d.index=n :=
 ⟨List.mem_of_find?_eq_some h,by simpa using List.find?_some h⟩
theorem dQ {l:List Dev} {n:Int}:aG l n=none ↔ ∀ d ∈ l,d.index≠n:=by
 unfold aG;rw [List.find?_eq_none];simp
theorem dj {l:List Dev} (hn:(l.map Dev.index).Nodup) {d:Dev} (hd:d ∈ l):aG l d.index=some d:=by
 induction l with
 | nil=>simp at hd
 | cons x l ih =>
  unfold aG;rw [List.map_cons,List.nodup_cons] at hn;by_cases he:x.index=d.index
  ·rw [List.find?_cons_of_pos (by simpa using he)];rcases List.mem_cons.1 hd with rfl|hd
   ·rfl
   ·exact absurd (by rw [he];exact List.mem_map.2 ⟨d,hd,rfl⟩) hn.1
  ·rw [List.find?_cons_of_neg (by simpa using he)];rcases List.mem_cons.1 hd with rfl|hd
   ·exact absurd rfl he
   ·exact ih hn.2 hd
theorem dG {l:List Dev} {n:Int} (h:aG l n=none) (k:Nat):cK l k n=[]:=by
 cases k with
 | zero=>rfl
 | succ k=>rw [cK,h]
theorem dR {l:List Dev} {n:Int} {d:Dev} (h:aG l n=some d) (k:Nat):cK l (k+1) n=d :: cK l k d.parent:=by rw [cK,h]
structure Okp (l:List Dev):Prop where
 pos:∀ d ∈ l,1≤d.index
 nodup:(l.map Dev.index).Nodup
 par:∀ (i:Nat) (h:i < l.length),l[i].parent=0∨∃ (j:Nat) (hj:j < i),l[j].index=l[i].parent
theorem Okt.p {l:List Dev} (h:Okt l):Okp l:=⟨h.pos,h.nodup,h.par⟩
theorem iD {l:List Dev} (h:∀ d ∈ l,1≤d.index) {n:Int} (hn:n≤0):aG l n=none:=dQ.2 fun d hd e=>by have:=h d hd;omega
theorem ry {l:List Dev} (h:Okp l):∀ (i:Nat) (hi:i < l.length) (k:Nat),i+1≤k → cK l k l[i].index=cK l (i+1) l[i].index:=by
 intro i;induction i using Nat.strongRecOn with
 | ind i ih =>
  intro hi k hk;obtain ⟨k',rfl⟩:∃ k',k=k'+1:=⟨k - 1,ac⟩
  have hf:=dj h.nodup (List.getElem_mem hi);rw [dR hf,dR hf];congr 1;rcases h.par i hi with h0|⟨j,hj,hp⟩
  ·rw [h0,dG (iD h.pos ac),dG (iD h.pos ac)]
  ·rw [← hp,ih j hj ac k' ac,ih j hj ac i ac]
theorem ew {l:List Dev} (h:Okp l) {d:Dev} (hd:d ∈ l):dy l d.index=d :: dy l d.parent:=by
 obtain ⟨i,hi,rfl⟩:=List.getElem_of_mem hd;have hf:=dj h.nodup hd;unfold dy;obtain ⟨n,hn⟩:∃ n,l.length=n+1:=⟨l.length - 1,ac⟩
 rw [hn,dR hf];congr 1;rcases h.par i hi with h0|⟨j,hj,hp⟩
 ·rw [h0,dG (iD h.pos ac),dG (iD h.pos ac)]
 ·rw [← hp,ry h j ac n ac,ry h j ac (n+1) ac]
theorem gY {l:List Dev} {n:Int} (h:aG l n=none):dy l n=[]:=dG h _
theorem lC {l:List Dev} (h:Okp l) {d:Dev} (hd:d ∈ l):bj l d.index=bj l d.parent++[d.original]:=by
 unfold bj;rw [ew h hd];simp
theorem gG {l:List Dev} {n:Int} (h:aG l n=none):bj l n=[]:=by unfold bj;rw [gY h];rfl
theorem Hw {l:List Dev} (h:Okp l) {d:Dev} (hd:d ∈ l):bj l d.index≠[]:=by rw [lC h hd];simp
theorem pA {l:List Dev}:∀ (k:Nat) (n:Int),(cK l k n).length≤k
 | 0,_=>by simp [cK]
 | k+1,n=>by
  rw [cK];split
  ·simp
  ·have:=pA (l:=l) k (by assumption:Dev).parent;simp only [List.length_cons];omega
theorem lD (l:List Dev) (n:Int):(dy l n).length≤l.length:=pA _ _
theorem nt (l:List Dev) (n:Int):(bj l n).length≤l.length:=by unfold bj;rw [List.length_reverse,List.length_map];exact lD l n
theorem iE {l:List Dev}:∀ (k:Nat) (n:Int) (d:Dev),d ∈ cK l k n → d ∈ l
 | 0,_,d,h=>by simp [cK] at h
 | k+1,n,d,h=>by
  rw [cK] at h;split at h
  ·simp at h
  ·rename_i x hx;rcases List.mem_cons.1 h with rfl|h
   ·exact (eu hx).1
   ·exact iE k _ d h
theorem gZ (ps:List ByteArray) (p:ByteArray):fC (ps++[p])=fC ps++⟨#[47]⟩++p:=by simp [fC]
def gn (ps:List (List UInt8)):List UInt8:=(ps.map fun p=>47 :: p).flatten
theorem mh (ps:List ByteArray):(fC ps).data.toList=gn (ps.map fun p=>p.data.toList):=by
 have key:∀ (ps:List ByteArray) (s:ByteArray),(ps.foldl (fun s p=>s++⟨#[47]⟩++p) s).data.toList=s.data.toList++gn (ps.map fun p=>p.data.toList):=by
  intro ps;induction ps with
  | nil=>intro s;simp [gn]
  | cons p ps ih =>
   intro s;rw [List.foldl_cons,ih];simp [gn]
 have:=key ps ⟨#[]⟩;simpa [fC] using this
theorem jF (p:List UInt8) (ps:List (List UInt8)):gn (p :: ps)=47 :: (p++gn ps):=by simp [gn]
theorem pB {s:ByteArray} (h:validS s=true):(47:UInt8) ∉ s.data.toList:=fun hm=>by
 unfold validS at h;simp only [Bool.and_eq_true] at h;have:=List.all_eq_true.1 h.2 47 hm;revert this;decide
theorem wW {l:List Dev} (h:∀ d ∈ l,validS d.original=true) (n:Int):∀ p ∈ bj l n,validS p=true:=fun p hp=>by
 unfold bj at hp;rw [List.mem_reverse] at hp;obtain ⟨d,hd,rfl⟩:=List.mem_map.1 hp;exact h d (iE _ _ d hd)
def eF (a b:ByteArray):Bool:=Lib.hasPrefix b.data.toList (a++⟨#[47]⟩).data.toList
def cx (a b:Dev):Bool:=((decide (a.kind=4) && decide (b.kind=4)) && decide (a.name=b.name)) || ((hasN a && hasN b) && (((decide (a.kind=b.kind) && decide (a.number=b.number)) || decide (bq a=bq b)) || (eF (bq a) (bq b) || eF (bq b) (bq a))))
def atM (l:List Dev) (own:List ByteArray) (n:Nat):Nat:=(List.range n).foldl (fun a i=>if cu (bj l (l.getD i default).index) own < 0 then i+1 else a) 0
theorem nv (l:List Dev) (own:List ByteArray) (n:Nat):atM l own (n+1)=if cu (bj l (l.getD n default).index) own < 0 then n+1 else atM l own n:=by
 unfold atM;rw [List.range_succ,List.foldl_append];rfl
theorem mi (l:List Dev) (own:List ByteArray):∀ n,atM l own n≤n
 | 0=>by simp [atM]
 | n+1=>by
  rw [nv];have:=mi l own n;split<;>omega
theorem ox (l:List Dev) (own:List ByteArray) {j:Nat} (h:cu (bj l (l.getD j default).index) own < 0):∀ n,j < n → j+1≤atM l own n
 | 0,hn=>by omega
 | n+1,hn=>by
  rw [nv];by_cases e:j=n
  ·subst e;rw [if_pos h];exact Nat.le_refl _
  ·have:=ox l own h n ac;split<;>omega
def mj (l:List Dev) (own:List ByteArray) (d:Dev) (x:Dev):Bool:=decide (cu (bj l x.index) own=0) || cx x d
def bB (l:List Dev) (d:Dev):List ByteArray:=bj l d.parent++[d.original]
def bU (l:List Dev) (d:Dev):Int :=
 if aS d≠0 then 41 else if (aG l d.index).isSome then 44 else if d.parent≠0∧(aG l d.parent).isNone then 42 else if 256≤l.length then 40 else if 7 < (bB l d).length then 46 else if l.any (mj l (bB l d) d) then 44 else 0
def eL (l:List Dev) (d:Dev):List Dev:=l.take (atM l (bB l d) l.length)++[d]++l.drop (atM l (bB l d) l.length)
theorem wX:∀ (a:List ByteArray) (x:ByteArray),cu a (a++[x]) < 0
 | [],x=>by simp [cu]
 | y :: a,x=>by rw [List.cons_append,cu,if_pos rfl];exact wX a x
theorem kS {d:Dev} (h:aS d=0):dI d=true:=by
 cases hn:dI d with
 | true=>rfl
 | false=>unfold aS at h;rw [hn] at h;simp at h
theorem nw {d:Dev} (h:aS d=0):namedM d=true:=by
 cases hn:namedM d with
 | true=>rfl
 | false =>
  have h1:=kS h;unfold aS at h;rw [hn,h1] at h;simp at h
theorem wY {d:Dev} (h:aS d=0):1≤d.index∧d.index≤1073741824:=by
 have:=kS h;unfold dI at this;simp only [Bool.and_eq_true,decide_eq_true_eq] at this;exact this.1.1
theorem jG {d:Dev} (h:aS d=0):validS d.original=true:=by
 have:=nw h;unfold namedM at this;simp only [Bool.and_eq_true] at this;exact this.1.1.1.2
theorem Okt.nil:Okt []:=⟨by simp,by simp,fun i h=>by simp at h,by simp,by simp⟩
theorem EY {α:Type} (l:List α) (d:α) (k:Nat) (hk:k≤l.length) (i:Nat):(l.take k++[d]++l.drop k)[i]? = if i < k then l[i]? else if i=k then some d else l[i - 1]?:=by
 rw [List.append_assoc,List.getElem?_append,List.length_take,Nat.min_eq_left hk];split
 ·rename_i h;rw [List.getElem?_take_of_lt h]
 ·rename_i h;rw [List.singleton_append];by_cases e:i=k
  ·subst e;simp
  ·rw [if_neg e];obtain ⟨m,hm⟩:∃ m,i - k=m+1:=⟨i - k - 1,ac⟩
   rw [hm,List.getElem?_cons_succ,List.getElem?_drop];congr 1;omega
theorem qp {α:Type} {l:List α} {d x:α} {k:Nat}:x ∈ l.take k++[d]++l.drop k ↔ x=d∨x ∈ l:=by
 rw [List.append_assoc,List.mem_append,List.singleton_append,List.mem_cons];constructor
 ·rintro (h|h|h)
  ·exact .inr (List.mem_of_mem_take h)
  ·exact .inl h
  ·exact .inr (List.mem_of_mem_drop h)
 ·rintro (h|h)
  ·exact .inr (.inl h)
  ·rw [← List.take_append_drop k l,List.mem_append] at h;rcases h with h|h
   ·exact .inl h
   ·exact .inr (.inr h)
theorem wZ {α:Type} (l:List α) (d:α) (k:Nat):(l.take k++[d]++l.drop k).Perm (d :: l):=by
 rw [List.append_assoc,List.singleton_append];refine (List.perm_middle).trans ?_;rw [List.take_append_drop]
theorem u3 {l:List Dev} (h:Okp l) {i:Nat} {d:Dev} (hd:l[i]? = some d):d.parent=0∨∃ (j:Nat) (e:Dev),j < i∧l[j]? = some e∧e.index=d.parent:=by
 obtain ⟨hi,rfl⟩:=List.getElem?_eq_some_iff.1 hd;rcases h.par i hi with h0|⟨j,hj,hp⟩
 ·exact .inl h0
 ·exact .inr ⟨j,_,hj,List.getElem?_eq_getElem ac,hp⟩
theorem Hy {l:List Dev} (h:Okp l) {d:Dev} (k:Nat) (hk:k≤l.length) (h1:1≤d.index) (hf:aG l d.index=none) (hp:d.parent=0∨∃ (j:Nat) (e:Dev),j < k∧l[j]? = some e∧e.index=d.parent):Okp (l.take k++[d]++l.drop k):=by
 refine ⟨fun x hx=>?_,?_,fun i hi=>?_⟩
 ·rcases qp.1 hx with rfl|hx
  ·exact h1
  ·exact h.pos x hx
 ·rw [((wZ l d k).map Dev.index).nodup_iff,List.map_cons,List.nodup_cons];refine ⟨fun hm=>?_,h.nodup⟩;obtain ⟨x,hx,he⟩:=List.mem_map.1 hm;exact dQ.1 hf x hx he
 ·have hg:=EY l d k hk;have up:∀ (j:Nat) (e:Dev),l[j]? = some e → (j < k∧(l.take k++[d]++l.drop k)[j]? = some e)∨(k≤j∧(l.take k++[d]++l.drop k)[j+1]? = some e):=fun j e he=>by
   by_cases hj:j < k
   ·exact .inl ⟨hj,by rw [hg,if_pos hj];exact he⟩
   ·exact .inr ⟨ac,by rw [hg,if_neg ac,if_neg ac];simpa using he⟩
  have fin:∀ (j:Nat) (e:Dev),j < i → (l.take k++[d]++l.drop k)[j]? = some e → e.index=(l.take k++[d]++l.drop k)[i].parent → ∃ (j:Nat) (hj:j < i),(l.take k++[d]++l.drop k)[j].index=(l.take k++[d]++l.drop k)[i].parent:=fun j e hj he hx=>by
   obtain ⟨h3,h4⟩:=List.getElem?_eq_some_iff.1 he;exact ⟨j,hj,by rw [h4];exact hx⟩
  have hx:(l.take k++[d]++l.drop k)[i]? = some (l.take k++[d]++l.drop k)[i]:=List.getElem?_eq_getElem hi;generalize (l.take k++[d]++l.drop k)[i]=x at hx fin ⊢;rw [hg] at hx;split at hx
  ·rcases u3 h hx with h0|⟨j,e,hj,he,hi2⟩
   ·exact .inl h0
   ·rcases up j e he with ⟨_,h3⟩|⟨h3,_⟩
    ·exact .inr (fin j e hj h3 hi2)
    ·omega
  ·split at hx
   ·rename_i hik;cases hx;rcases hp with h0|⟨j,e,hj,he,hi2⟩
    ·exact .inl h0
    ·rcases up j e he with ⟨_,h3⟩|⟨h3,_⟩
     ·exact .inr (fin j e ac h3 hi2)
     ·omega
   ·rcases u3 h hx with h0|⟨j,e,hj,he,hi2⟩
    ·exact .inl h0
    ·rcases up j e he with ⟨_,h3⟩|⟨_,h3⟩
     ·exact .inr (fin j e ac h3 hi2)
     ·exact .inr (fin (j+1) e ac h3 hi2)
theorem yG {l m:List Dev} (hl:Okp l) (hm:Okp m) (hsub:∀ d ∈ l,d ∈ m → d.parent=0∨∃ e ∈ l,e ∈ m∧e.index=d.parent):∀ (i:Nat) (hi:i < l.length),l[i] ∈ m → dy l l[i].index=dy m l[i].index:=by
 intro i;induction i using Nat.strongRecOn with
 | ind i ih =>
  intro hi him;have hil:l[i] ∈ l:=List.getElem_mem hi;rw [ew hl hil,ew hm him];congr 1;rcases hsub _ hil him with h0|⟨e,he,hem,hx⟩
  ·rw [h0,gY (iD hl.pos ac),gY (iD hm.pos ac)]
  ·rcases hl.par i hi with h0|⟨j,hj,hp⟩
   ·rw [h0] at hx;have:=hl.pos e he;omega
   ·have hj2:j < l.length:=ac;have hee:l[j]=e:=by
     have h1:=dj hl.nodup he;have h2:=dj hl.nodup (List.getElem_mem hj2);rw [hp,← hx,h1] at h2;exact (Option.some.inj h2).symm
    rw [← hp];exact ih j hj hj2 (by rw [hee];exact hem)
theorem tQ {l m:List Dev} (hl:Okp l) (hm:Okp m) (hsub:∀ d ∈ l,d ∈ m → d.parent=0∨∃ e ∈ l,e ∈ m∧e.index=d.parent) {d:Dev} (hd:d ∈ l) (hdm:d ∈ m):bj l d.index=bj m d.index:=by
 obtain ⟨i,hi,rfl⟩:=List.getElem_of_mem hd;unfold bj;rw [yG hl hm hsub i hi hdm]
theorem kT {l:List Dev} {n:Int} (h:(aG l n).isNone=false):∃ (j:Nat) (e:Dev),l[j]? = some e∧e.index=n:=by
 cases hf:aG l n with
 | none=>rw [hf] at h;cases h
 | some e =>
  obtain ⟨h1,h2⟩:=eu hf;obtain ⟨j,hj,rfl⟩:=List.getElem_of_mem h1;exact ⟨j,_,List.getElem?_eq_getElem hj,h2⟩
theorem gI {l:List Dev} {d:Dev} (h:bU l d=0):aS d=0∧aG l d.index=none∧(d.parent=0∨(aG l d.parent).isNone=false)∧l.length < 256∧(bB l d).length≤7∧∀ x ∈ l,mj l (bB l d) d x=false:=by
 unfold bU at h;split at h
 ·cases h
 rename_i h1;split at h
 ·cases h
 rename_i h2;split at h
 ·cases h
 rename_i h3;split at h
 ·cases h
 rename_i h4;split at h
 ·cases h
 rename_i h5;split at h
 ·cases h
 rename_i h6;refine ⟨by simpa using h1,by simpa using h2,?_,ac,ac,fun x hx=>?_⟩
 ·by_cases e:d.parent=0
  ·exact .inl e
  ·exact .inr (by cases hq:(aG l d.parent).isNone with|false=>rfl|true=>exact absurd ⟨e,hq⟩ h3)
 ·cases hb:mj l (bB l d) d x with
  | false=>rfl
  | true=>exact absurd (List.any_eq_true.2 ⟨x,hx,hb⟩) h6
theorem Okt.ins {l:List Dev} (h:Okt l) {d:Dev} (hi:bU l d=0):Okt (eL l d)∧(∀ x ∈ l,bj (eL l d) x.index=bj l x.index):=by
 obtain ⟨h1,h2,h3,h4,h5,h6⟩:=gI hi;have hle:=mi l (bB l d) l.length;have hpar:d.parent=0∨∃ (j:Nat) (e:Dev),j < atM l (bB l d) l.length∧l[j]? = some e∧e.index=d.parent:=by
  rcases h3 with h3|h3
  ·exact .inl h3
  ·obtain ⟨j,e,hj,he⟩:=kT h3;obtain ⟨hj2,hj3⟩:=List.getElem?_eq_some_iff.1 hj;have hc:cu (bj l (l.getD j default).index) (bB l d) < 0:=by
    rw [ai l hj2,hj3,he];exact wX _ _
   exact .inr ⟨j,e,by have:=ox l (bB l d) hc l.length hj2;omega,hj,he⟩
 have hok:Okp (eL l d):=Hy h.p _ hle (wY h1).1 h2 hpar;have hmem:∀ x,x ∈ eL l d ↔ x=d∨x ∈ l:=fun x=>qp
 have hsame:∀ x ∈ l,bj (eL l d) x.index=bj l x.index:=fun x hx=>by
  refine (tQ h.p hok (fun y hy hy2=>?_) hx ((hmem x).2 (.inr hx))).symm;obtain ⟨i,hi2,rfl⟩:=List.getElem_of_mem hy;rcases h.par i hi2 with h0|⟨j,hj,hp⟩
  ·exact .inl h0
  ·exact .inr ⟨l[j],List.getElem_mem _,(hmem _).2 (.inr (List.getElem_mem _)),hp⟩
 have hown:bj (eL l d) d.index=bB l d:=by
  rw [lC hok ((hmem d).2 (.inl rfl)),bB];congr 1;rcases h3 with h3|h3
  ·rw [h3,gG (iD hok.pos ac),gG (iD h.pos ac)]
  ·obtain ⟨j,e,hj,he⟩:=kT h3;rw [← he];exact hsame e (List.mem_of_getElem? hj)
 refine ⟨⟨hok.pos,hok.nodup,hok.par,fun x hx=>?_,fun x hx y hy he=>?_⟩,hsame⟩
 ·rcases (hmem x).1 hx with rfl|hx
  ·exact jG h1
  ·exact h.val x hx
 ·have hno:∀ x ∈ l,bj l x.index≠bB l d:=fun x hx e=>by
   have:=h6 x hx;unfold mj at this;rw [Bool.or_eq_false_iff] at this;exact absurd (m7.2 e) (by simpa using this.1)
  rcases (hmem x).1 hx with rfl|hx'<;>rcases (hmem y).1 hy with rfl|hy'
  ·rfl
  ·rw [hown,hsame y hy'] at he;exact absurd he.symm (hno y hy')
  ·rw [hown,hsame x hx'] at he;exact absurd he (hno x hx')
  ·rw [hsame x hx',hsame y hy'] at he;exact h.dist x hx' y hy' he
def bO (l:List Dev) (m top:Int):Bool:=(dy l m).any fun d=>decide (d.index=top)
def fp (l:List Dev) (n:Int):List Dev:=l.filter fun d=>!bO l d.index n
theorem Okt.rem {l:List Dev} (h:Okt l) (n:Int):Okt (fp l n)∧(∀ x ∈ fp l n,bj (fp l n) x.index=bj l x.index):=by
 have hmem:∀ x,x ∈ fp l n ↔ x ∈ l∧bO l x.index n=false:=fun x=>by unfold fp;rw [List.mem_filter];simp
 have hup:∀ x ∈ l,∀ e ∈ l,e.index=x.parent → bO l x.index n=false → bO l e.index n=false:=fun x hx e he hp hb=>by
  unfold bO at hb ⊢;rw [ew h.p hx,← hp,List.any_cons,Bool.or_eq_false_iff] at hb;exact hb.2
 have hok:Okp (fp l n):=by
  refine ⟨fun x hx=>h.pos x ((hmem x).1 hx).1,h.nodup.sublist (List.filter_sublist.map _),fun i hi=>?_⟩;have hs:fp l n=(fp l n).take i++(fp l n)[i] :: (fp l n).drop (i+1):=by rw [← List.drop_eq_getElem_cons hi,List.take_append_drop]
  have hs2:=hs
  conv at hs2=>lhs;unfold fp
  obtain ⟨l1,l2,e1,e2,e3⟩:=List.filter_eq_append_iff.1 hs2;obtain ⟨l3,l4,e4,e5,e6,e7⟩:=List.filter_eq_cons_iff.1 e3;have hil:(fp l n)[i] ∈ l:=((hmem _).1 (List.getElem_mem hi)).1;have hib:=((hmem _).1 (List.getElem_mem hi)).2;generalize (fp l n)[i]=x at hil hib e4 e6;have hpos:l[l1.length+l3.length]? = some x:=by
   rw [e1,e4,List.getElem?_append_right ac,List.getElem?_append_right ac];have:l1.length+l3.length - l1.length - l3.length=0:=ac;rw [this];rfl
  rcases u3 h.p hpos with h0|⟨j,e,hj,he,hp⟩
  ·exact .inl h0
  ·right;have hel:e ∈ l:=List.mem_of_getElem? he;have heb:=hup _ hil e hel hp hib;have he1:e ∈ l1:=by
    rw [e1,e4] at he;by_cases hj1:j < l1.length
    ·rw [List.getElem?_append_left hj1] at he;exact List.mem_of_getElem? he
    ·rw [List.getElem?_append_right ac,List.getElem?_append_left ac] at he;have:=e5 e (List.mem_of_getElem? he);simp [heb] at this
   have he2:e ∈ (fp l n).take i:=by
    rw [← e2,List.mem_filter];exact ⟨he1,by simp [heb]⟩
   obtain ⟨j',hj',hx⟩:=List.mem_take_iff_getElem.1 he2;exact ⟨j',ac,by rw [hx];exact hp⟩
 have hsame:∀ x ∈ fp l n,bj (fp l n) x.index=bj l x.index:=fun x hx=>by
  refine tQ hok h.p (fun y hy hy2=>?_) hx ((hmem x).1 hx).1;obtain ⟨i,hi2,rfl⟩:=List.getElem_of_mem hy;rcases hok.par i hi2 with h0|⟨j,hj,hp⟩
  ·exact .inl h0
  ·exact .inr ⟨_,List.getElem_mem _,((hmem _).1 (List.getElem_mem ac)).1,hp⟩
 refine ⟨⟨hok.pos,hok.nodup,hok.par,fun x hx=>h.val x ((hmem x).1 hx).1,fun x hx y hy he=>?_⟩,hsame⟩;rw [hsame x hx,hsame y hy] at he;exact h.dist x ((hmem x).1 hx).1 y ((hmem y).1 hy).1 he
def atD (l:List Dev) (p:ByteArray):Option Dev:=l.find? fun d=>decide (aZ l d.index=p)
def lL (l:List Dev):Prop:=l.Pairwise fun a b=>cu (bj l a.index) (bj l b.index) < 0
theorem lL.nil:lL []:=List.Pairwise.nil
theorem w8 (l:List Dev) (own:List ByteArray):∀ n,atM l own n=0∨cu (bj l (l.getD (atM l own n - 1) default).index) own < 0
 | 0=>by simp [atM]
 | n+1=>by
  rw [nv];split
  ·rename_i h;exact .inr h
  ·exact w8 l own n
theorem Js {l:List Dev} {d:Dev} (h:bU l d=0):∀ x ∈ l.drop (atM l (bB l d) l.length),cu (bB l d) (bj l x.index) < 0:=fun x hx=>by
 obtain ⟨_,_,_,_,_,h6⟩:=gI h;obtain ⟨i,hi,rfl⟩:=List.getElem_of_mem hx;rw [List.length_drop] at hi;have hb:=h6 _ (List.mem_of_mem_drop hx);rw [List.getElem_drop] at hb ⊢;unfold mj at hb;rw [Bool.or_eq_false_iff] at hb;have h0:¬ cu (bj l (l[atM l (bB l d) l.length+i]' ac).index) (bB l d)=0:=by simpa using hb.1
 have h1:¬ cu (bj l (l[atM l (bB l d) l.length+i]' ac).index) (bB l d) < 0:=fun hc=>by
  have hj:atM l (bB l d) l.length+i < l.length:=ac;rw [← ai l hj] at hc;have:=ox l (bB l d) hc l.length hj;omega
 rw [tz];omega
theorem yH {l:List Dev} {d:Dev} (ho:lL l):∀ x ∈ l.take (atM l (bB l d) l.length),cu (bj l x.index) (bB l d) < 0:=fun x hx=>by
 have hle:=mi l (bB l d) l.length;obtain ⟨i,hi,rfl⟩:=List.getElem_of_mem hx;rw [List.length_take] at hi;rw [List.getElem_take];rcases w8 l (bB l d) l.length with h0|h0
 ·omega
 ·obtain ⟨k,hk⟩:∃ k,atM l (bB l d) l.length=k:=⟨_,rfl⟩
  rw [hk] at hi h0 hle;have hk1:k - 1 < l.length:=ac;rw [ai l hk1] at h0;by_cases e:i=k - 1
  ·subst e;exact h0
  ·exact me (List.pairwise_iff_getElem.1 ho i (k - 1) ac hk1 ac) h0
theorem w9 {l:List Dev} (h:Okt l) {d:Dev} (hi:bU l d=0):bj (eL l d) d.index=bB l d:=by
 obtain ⟨hok,hsame⟩:=h.ins hi;obtain ⟨_,_,h3,_,_,_⟩:=gI hi;have hmem:∀ x,x ∈ eL l d ↔ x=d∨x ∈ l:=fun x=>qp
 rw [lC hok.p ((hmem d).2 (.inl rfl)),bB];congr 1;rcases h3 with h3|h3
 ·rw [h3,gG (iD hok.pos ac),gG (iD h.pos ac)]
 ·obtain ⟨j,e,hj,he⟩:=kT h3;rw [← he];exact hsame e (List.mem_of_getElem? hj)
theorem lL.ins {l:List Dev} (ho:lL l) (h:Okt l) {d:Dev} (hi:bU l d=0):lL (eL l d):=by
 obtain ⟨hok,hsame⟩:=h.ins hi;have hown:=w9 h hi;have hlo:=yH (d:=d) ho;have hhi:=Js hi;have ht:∀ x ∈ l.take (atM l (bB l d) l.length),x ∈ l:=fun x hx=>List.mem_of_mem_take hx
 have hd:∀ x ∈ l.drop (atM l (bB l d) l.length),x ∈ l:=fun x hx=>List.mem_of_mem_drop hx
 have key:(l.take (atM l (bB l d) l.length)++([d]++l.drop (atM l (bB l d) l.length))).Pairwise fun a b=>cu (bj (eL l d) a.index) (bj (eL l d) b.index) < 0:=by
  rw [List.pairwise_append];refine ⟨(List.Pairwise.sublist (List.take_sublist _ _) ho).imp_of_mem fun ha hb hab=>by rw [hsame _ (ht _ ha),hsame _ (ht _ hb)];exact hab,?_,?_⟩
  ·rw [List.singleton_append,List.pairwise_cons];refine ⟨fun y hy=>by rw [hown,hsame _ (hd _ hy)];exact hhi y hy,(List.Pairwise.sublist (List.drop_sublist _ _) ho).imp_of_mem fun ha hb hab=>by rw [hsame _ (hd _ ha),hsame _ (hd _ hb)];exact hab⟩
  ·intro x hx y hy;rw [hsame _ (ht _ hx)];rcases List.mem_append.1 hy with hy|hy
   ·rw [List.mem_singleton] at hy;subst hy;rw [hown];exact hlo x hx
   ·rw [hsame _ (hd _ hy)];exact me (hlo x hx) (hhi y hy)
 unfold lL;rw [← List.append_assoc] at key;exact key
def ci (l:List Dev) (d:Dev):Bool:=l.any fun x=>!decide (x.index=d.index) && cx x d
def ed (l:List Dev) (d:Dev):List Dev:=l.map fun x=>if x.index=d.index then d else x
def aR (l:List Dev) (d:Dev):Int:=match aG l d.index with
 | none=>45
 | some o=>if aS d≠0 then 41 else if d.parent≠o.parent∨d.original≠o.original∨d.kind≠o.kind then 42 else if ci l d=true then 44 else 0
theorem xa {l:List Dev} {d:Dev} (hn:(l.map Dev.index).Nodup) {i:Nat} (hi:i < l.length) (he:(l.getD i default).index=d.index):ed l d=l.set i d:=by
 unfold ed;refine List.ext_getElem (by simp) fun j h1 h2=>?_
 rw [List.getElem_map,List.getElem_set];rw [List.length_map] at h1;rw [ai l hi] at he;by_cases e:i=j
 ·subst e;rw [if_pos he,if_pos rfl]
 ·rw [if_neg e];rw [if_neg];intro e2;apply e;have h3:=List.pairwise_iff_getElem.1 hn;rcases Nat.lt_trichotomy i j with h|h|h
  ·exact absurd (by rw [List.getElem_map,List.getElem_map,he,e2]) (h3 i j (by simpa using hi) (by simpa using h1) h)
  ·exact h
  ·exact absurd (by rw [List.getElem_map,List.getElem_map,he,e2]) (h3 j i (by simpa using h1) (by simpa using hi) h)
structure iF (f:Dev → Dev):Prop where
 ix:∀ x,(f x).index=x.index
 pa:∀ x,(f x).parent=x.parent
 orig:∀ x,(f x).original=x.original
theorem iF.find {f:Dev → Dev} (h:iF f) (l:List Dev) (n:Int):aG (l.map f) n=(aG l n).map f:=by
 unfold aG;rw [List.find?_map];congr 1;show List.find? (fun x=>decide ((f x).index=n)) l=_;simp only [h.ix]
theorem iF.chain {f:Dev → Dev} (h:iF f) (l:List Dev):∀ (k:Nat) (n:Int),cK (l.map f) k n=(cK l k n).map f
 | 0,n=>rfl
 | k+1,n=>by
  cases hf:aG l n with
  | none =>
   have hf2:aG (l.map f) n=none:=by rw [h.find,hf];rfl
   rw [dG hf,dG hf2];rfl
  | some d =>
   have hf2:aG (l.map f) n=some (f d):=by rw [h.find,hf];rfl
   rw [dR hf,dR hf2,h.pa,iF.chain h l k];rfl
theorem iF.orig' {f:Dev → Dev} (h:iF f) (l:List Dev) (n:Int):bj (l.map f) n=bj l n:=by
 unfold bj dy;rw [h.chain,List.length_map,List.map_map];congr 2;funext x;exact h.orig x
theorem iF.ixs {f:Dev → Dev} (h:iF f) (l:List Dev):(l.map f).map Dev.index=l.map Dev.index:=by
 rw [List.map_map];exact List.map_congr_left fun x _=>h.ix x
theorem iF.okt {f:Dev → Dev} (h:iF f) {l:List Dev} (ht:Okt l):Okt (l.map f):=by
 refine ⟨fun d hd=>?_,by rw [h.ixs];exact ht.nodup,fun i hi=>?_,fun d hd=>?_,fun d hd e he hde=>?_⟩
 ·obtain ⟨x,hx,rfl⟩:=List.mem_map.1 hd;rw [h.ix];exact ht.pos x hx
 ·rw [List.length_map] at hi;rw [List.getElem_map,h.pa];rcases ht.par i hi with h1|⟨j,hj,h1⟩
  ·exact .inl h1
  ·exact .inr ⟨j,hj,by rw [List.getElem_map,h.ix];exact h1⟩
 ·obtain ⟨x,hx,rfl⟩:=List.mem_map.1 hd;rw [h.orig];exact ht.val x hx
 ·obtain ⟨x,hx,rfl⟩:=List.mem_map.1 hd;obtain ⟨y,hy,rfl⟩:=List.mem_map.1 he;rw [h.orig',h.orig',h.ix,h.ix] at hde;rw [ht.dist x hx y hy hde]
theorem iF.ord {f:Dev → Dev} (h:iF f) {l:List Dev} (ho:lL l):lL (l.map f):=by
 unfold lL;rw [List.pairwise_map];refine ho.imp fun {a b} hab=>?_
 rw [h.orig',h.orig',h.ix,h.ix];exact hab
end Go.Proofs.YtmbbkfffcflfcaaGreatDoor
