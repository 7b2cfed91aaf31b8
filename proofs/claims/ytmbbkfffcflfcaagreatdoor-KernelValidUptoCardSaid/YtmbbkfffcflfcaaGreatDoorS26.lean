/- What the program computes, and the plain laws of it, part 26. -/
import Derived.WideKeyEntry
import Derived.Test.YtmbbkfffcflfcaaGreatDoorS23
import Derived.Test.YtmbbkfffcflfcaaGreatDoorS25
namespace Go.Proofs.YtmbbkfffcflfcaaGreatDoor
attribute [local irreducible] PL QL PWPr PCalls Weak RetK Kontr PA
open Go.RowKit
open IntWalk renaming iteOmega → O, toNatUp → U
set_option linter.unusedVariables false
set_option linter.unusedSimpArgs false
set_option maxRecDepth 20000
set_option maxHeartbeats 1000000 in
theorem text_pure (s:ByteArray) (hs:s.size≤9223372036854775807):PCalls Tryz.prog 105 [.c (.v (.string s))] [] fun r os=>r = .c (.v (.bool (textS s)))∧os=[]:=by
 refine pcalls_of Tryz.func105 rfl (by simp [Tryz.ntmps105]) ?_
 rw [Tryz.ntmps105,Tryz.results105]
 push_cast [O,U]
 have cB:CutB 7 []:=trivial
 repeat' ((first|refine pC ?_|refine pQC ?_|refine pU ?_|refine pif ?_ ?_<;>intro h<;>try exact pN h)<;>push_cast [O,U])
 (apply pwp_loop3 (α:=Nat) 7 [] (fun k=>[(6,.c (.v (.int .i64 k)))]) (fun k=>[]) (fun k=>k≤s.size∧(s.data.toList.take k).all textB=true) (fun k=>s.size - k) (0);(focus ((try push_cast [O,U]);rfl));(focus exact ⟨by omega,rfl⟩);(focus ((refine weak_fg ?_;try push_cast [O,U]))))
 rintro k ⟨hk,ha⟩
 push_cast [O,U]
 by_cases hlt:k < s.size
 ·by_cases h1:((s.data.toList.getD k 0).toNat:Int) < 32
  ·have e:=all_not hlt (p:=textB) (by unfold textB;rw [decide_eq_false (by omega)];rfl)
   repeat' ((first|refine pC ?_|refine pQC ?_|refine pU ?_|refine pif ?_ ?_<;>intro h<;>try exact pN h)<;>push_cast [O,U,h1])
   (refine retK_of [] ?_;push_cast [O,U])
   rw [textS,e];rfl
  ·by_cases h2:(126:Int) < ((s.data.toList.getD k 0).toNat:Int)
   ·have e:=all_not hlt (p:=textB) (by unfold textB;rw [decide_eq_false (p:=(s.data.toList.getD k 0).toNat≤126) (by omega),Bool.and_false])
    repeat' ((first|refine pC ?_|refine pQC ?_|refine pU ?_|refine pif ?_ ?_<;>intro h<;>try exact pN h)<;>push_cast [O,U,h1,h2])
    (refine retK_of [] ?_;push_cast [O,U])
    rw [textS,e];rfl
   ·have e:=all_next hlt ha (by unfold textB;rw [decide_eq_true (by omega),decide_eq_true (by omega)];rfl)
    repeat' ((first|refine pC ?_|refine pQC ?_|refine pU ?_|refine pif ?_ ?_<;>intro h<;>try exact pN h)<;>push_cast [O,U,h1,h2])
    exact ⟨k+1,⟨by omega,e⟩,by (refine weak_fg ?_;push_cast [O,U]),by omega⟩
 ·have hk2:k=s.size:=by omega
  subst hk2
  have he:s.data.toList.take s.size=s.data.toList:=List.take_of_length_le (Nat.le_refl _)
  rw [he] at ha
  have hd:decide ((s.size:Int)≤256)=decide (s.size≤256):=decide_eq_decide.2 (by omega)
  repeat' ((first|refine pC ?_|refine pQC ?_|refine pU ?_|refine pif ?_ ?_<;>intro h<;>try exact pN h)<;>push_cast [O,U])
  (refine retK_of [] ?_;push_cast [O,U])
  rw [textS,ha,Bool.true_and,← hd]
set_option maxRecDepth 20000
def parseR (p:ByteArray):PV:=.two (if globM p=0 then .c (.sl 1 (altsD ((altsM p).getD []))) else .c (.v (.slice none 0 0))) (.c (.v (.int .i64 (globM p))))
set_option maxRecDepth 20000 in
set_option maxHeartbeats 4000000 in
theorem parse_pure (p:ByteArray) (hf:p.size≤9223372036854775807):PCalls Tryz.prog 59 [.c (.v (.string p))] [] fun r os=>r=parseR p∧os=[]:=by
 have ht:=text_pure p hf
 refine pcalls_of Tryz.func59 rfl (by simp [Tryz.ntmps59]) ?_
 rw [Tryz.ntmps59,Tryz.results59]
 push_cast [-List.reduceReplicate,O,U]
 unfold parseR
 by_cases h1:256 < p.size
 ·have hR:globM p=21:=by unfold globM;rw [if_pos h1]
  have h1':(256:Int) < (p.size:Int):=by omega
  repeat' ((first|refine pG ?_|refine pQ ?_|refine pU ?_|refine pif ?_ ?_<;>intro h<;>try exact pN h)<;>push_cast [-List.reduceReplicate,O,U,h1'])
  (refine retK_of [] ?_;push_cast [-List.reduceReplicate,O,U,hR])
 have h1':¬ (256:Int) < (p.size:Int):=by omega
 by_cases h2:p.data.toList.all textB=true
 case neg =>
  have h2':=Bool.eq_false_iff.2 h2
  have hR:globM p=20:=by unfold globM;rw [if_neg h1,if_pos (by rw [h2'];rfl)]
  have hts:textS p=false:=by unfold textS;rw [h2'];rfl
  rw [hts] at ht
  repeat' ((first|refine plE [] ht ?_ ?_|refine pG ?_|refine pQ ?_|refine pU ?_|refine pif ?_ ?_<;>intro h<;>try exact pN h)<;>push_cast [-List.reduceReplicate,O,U,h1'])
  (refine retK_of [] ?_;push_cast [-List.reduceReplicate,O,U,hR])
 have hts:textS p=true:=by unfold textS;rw [h2,decide_eq_true (by omega)];rfl
 rw [hts] at ht
 have ha:=alts_pure p (by omega) (text_byt h2) fun i hi=>bset_pure p i hi (by omega) (text_byt h2)
 cases hq:altsM p with
 | none =>
  have hR:globM p=20:=by unfold globM;rw [if_neg h1,if_neg (by rw [h2];simp),hq]
  rw [hq] at ha
  repeat' ((first|refine plE [] ht ?_ ?_|(refine plc [0] (ha) ?_ ?_;push_cast [-List.reduceReplicate,O,U,h1'];rintro r os ⟨⟨i,rfl⟩,rfl⟩)|refine pG ?_|refine pQ ?_|refine pU ?_|refine pif ?_ ?_<;>intro h<;>try exact pN h)<;>push_cast [-List.reduceReplicate,O,U,h1'])
  (refine retK_of [] ?_;push_cast [-List.reduceReplicate,O,U,hR])
 | some l =>
  have hR:globM p=0:=by unfold globM;rw [if_neg h1,if_neg (by rw [h2];simp),hq]
  rw [hq] at ha
  repeat' ((first|refine plE [] ht ?_ ?_|(refine plc [0] (ha) ?_ ?_;push_cast [-List.reduceReplicate,O,U,h1'];rintro r os ⟨⟨i,rfl⟩,rfl⟩)|refine pG ?_|refine pQ ?_|refine pU ?_|refine pif ?_ ?_<;>intro h<;>try exact pN h)<;>push_cast [-List.reduceReplicate,O,U,h1'])
  (refine retK_of [] ?_;push_cast [-List.reduceReplicate,O,U,hR])
  rfl
theorem gchk_pure (p:ByteArray) (hf:p.size≤9223372036854775807):PCalls Tryz.prog 75 [.c (.v (.string p))] [] fun r os=>r = .c (.v (.int .i64 (globM p)))∧os=[]:=by
 have hp:=parse_pure p hf
 unfold parseR at hp
 refine pcalls_of Tryz.func75 rfl (by simp [Tryz.ntmps75]) ?_
 rw [Tryz.ntmps75,Tryz.results75]
 push_cast [-List.reduceReplicate,O,U]
 by_cases h:globM p=0
 ·rw [if_pos h] at hp
  repeat' ((first|refine plE [] hp ?_ ?_|refine pG ?_|refine pQ ?_|refine pU ?_|refine pif ?_ ?_<;>intro h<;>try exact pN h)<;>push_cast [-List.reduceReplicate,O,U])
  (refine retK_of [] ?_;push_cast [-List.reduceReplicate,O,U])
 ·rw [if_neg h] at hp
  repeat' ((first|refine plE [] hp ?_ ?_|refine pG ?_|refine pQ ?_|refine pU ?_|refine pif ?_ ?_<;>intro h<;>try exact pN h)<;>push_cast [-List.reduceReplicate,O,U])
  (refine retK_of [] ?_;push_cast [-List.reduceReplicate,O,U])
set_option maxRecDepth 20000 in
set_option maxHeartbeats 4000000 in
theorem match_pure (p s:ByteArray) (hf:p.size≤9223372036854775807) (hs:s.size≤9000000000000000000):PCalls Tryz.prog 27 [.c (.v (.string p)),.c (.v (.string s))] [] fun r os=>r = .c (.v (.bool (matchM p s)))∧os=[]:=by
 have hp:=parse_pure p hf
 unfold parseR at hp
 refine pcalls_of Tryz.func27 rfl (by simp [Tryz.ntmps27]) ?_
 rw [Tryz.ntmps27,Tryz.results27]
 push_cast [-List.reduceReplicate,O,U]
 have cB:CutB 11 [18,19,33,34,35]:=trivial
 by_cases h0:globM p=0
 case neg =>
  rw [if_neg h0] at hp
  have hR:matchM p s=false:=by unfold matchM;rw [decide_eq_false h0];rfl
  repeat' ((first|refine plE [] hp ?_ ?_|refine pC ?_|refine pQC ?_|refine pU ?_|refine pif ?_ ?_<;>intro h<;>try exact pN h)<;>push_cast [-List.reduceReplicate,O,U,h0])
  (refine retK_of [] ?_;push_cast [-List.reduceReplicate,O,U,hR])
 rw [if_pos h0,h0] at hp
 repeat' ((first|refine plE [] hp ?_ ?_|refine pC ?_|refine pQC ?_|refine pU ?_|refine pif ?_ ?_<;>intro h<;>try exact pN h)<;>push_cast [-List.reduceReplicate,O,U])
 (apply pwp_loop3 (α:=Nat) 11 [18,19,33,34,35] (fun k=>[(19,.c (.v (.int .i64 k)))]) (fun k=>[]) (fun k=>k≤s.size∧(s.data.toList.take k).all textB=true) (fun k=>s.size - k) (0);(focus ((try push_cast [-List.reduceReplicate,O,U]);rfl));(focus exact ⟨by omega,rfl⟩);(focus ((refine weak_fg ?_;try push_cast [-List.reduceReplicate,O,U]))))
 rintro k ⟨hk,ha⟩
 push_cast [-List.reduceReplicate,O,U]
 by_cases hlt:k < s.size
 ·have bad:textB (s.data.toList.getD k 0)=false → matchM p s=false:=fun hx=>by unfold matchM;rw [all_not hlt hx];simp
  by_cases h1:((s.data.toList.getD k 0).toNat:Int) < 32
  ·have hR:=bad (by unfold textB;rw [decide_eq_false (by omega)];rfl)
   repeat' ((first|refine pC ?_|refine pQC ?_|refine pU ?_|refine pif ?_ ?_<;>intro h<;>try exact pN h)<;>push_cast [-List.reduceReplicate,O,U,h1])
   (refine retK_of [] ?_;push_cast [-List.reduceReplicate,O,U,hR])
  ·by_cases h2:(126:Int) < ((s.data.toList.getD k 0).toNat:Int)
   ·have hR:=bad (by unfold textB;rw [decide_eq_false (p:=(s.data.toList.getD k 0).toNat≤126) (by omega),Bool.and_false])
    repeat' ((first|refine pC ?_|refine pQC ?_|refine pU ?_|refine pif ?_ ?_<;>intro h<;>try exact pN h)<;>push_cast [-List.reduceReplicate,O,U,h1,h2])
    (refine retK_of [] ?_;push_cast [-List.reduceReplicate,O,U,hR])
   ·have e:=all_next hlt ha (by unfold textB;rw [decide_eq_true (by omega),decide_eq_true (by omega)];rfl)
    repeat' ((first|refine pC ?_|refine pQC ?_|refine pU ?_|refine pif ?_ ?_<;>intro h<;>try exact pN h)<;>push_cast [-List.reduceReplicate,O,U,h1,h2])
    exact ⟨k+1,⟨by omega,e⟩,by (refine weak_fg ?_;push_cast [-List.reduceReplicate,O,U]),by omega⟩
 have hk2:k=s.size:=by omega
 subst hk2
 have he:s.data.toList.take s.size=s.data.toList:=List.take_of_length_le (Nat.le_refl _)
 rw [he] at ha
 obtain ⟨l,hq⟩:∃ l,altsM p=some l:=by
  cases hq:altsM p with
  | some l=>exact ⟨l,rfl⟩
  | none =>
   unfold globM at h0
   rw [hq] at h0
   split at h0
   ·cases h0
   ·split at h0<;>cases h0
 have hok:=altsM_ok hq
 have hp256:p.size≤256:=by
  unfold globM at h0
  split at h0
  ·cases h0
  ·omega
 have hll:=altGo_len (Nat.zero_le _) (Nat.zero_le _) (show altGo p 0 [] []=some l from hq)
 have hR:matchM p s=l.any fun x=>mat x s.data.toList:=by unfold matchM;rw [decide_eq_true h0,ha,hq];rfl
 rw [hq,Option.getD_some,altsD]
 repeat' ((first|refine pC ?_|refine pQC ?_|refine pU ?_|refine pif ?_ ?_<;>intro h<;>try exact pN h)<;>push_cast [-List.reduceReplicate,O,U])
 (apply pwp_loop3 (α:=Nat) 11 [18,19,33,34,35] (fun k=>[(35,.c (.v (.int .i64 k)))]) (fun k=>[]) (fun k=>k≤l.length∧((l.take k).any fun x=>mat x s.data.toList)=false) (fun k=>l.length - k) (0);(focus ((try push_cast [-List.reduceReplicate,O,U]);rfl));(focus exact ⟨by omega,rfl⟩);(focus ((refine weak_fg ?_;try push_cast [-List.reduceReplicate,O,U]))))
 rintro k ⟨hk,hn⟩
 push_cast [-List.reduceReplicate,O,U]
 by_cases hlt:k < l.length
 ·have hx:=hok (l.getD k default) (by rw [getD_lt l hlt];exact List.getElem_mem _)
  have hm:=matches_pure (l.getD k default) s hx.1 (by have:=hx.2;omega) hs (text_byt ha)
  cases hv:mat (l.getD k default) s.data.toList with
  | true =>
   rw [hv] at hm
   have hR2:matchM p s=true:=by rw [hR,List.any_eq_true];exact ⟨l.getD k default,by rw [getD_lt l hlt];exact List.getElem_mem _,hv⟩
   repeat' ((first|refine plE [] hm ?_ ?_|refine pC ?_|refine pQC ?_|refine pU ?_|refine pif ?_ ?_<;>intro h<;>try exact pN h)<;>push_cast [-List.reduceReplicate,O,U])
   (refine retK_of [] ?_;push_cast [-List.reduceReplicate,O,U,hR2])
  | false =>
   rw [hv] at hm
   have hn2:((l.take (k+1)).any fun x=>mat x s.data.toList)=false:=by
    rw [List.take_succ_eq_append_getElem hlt,List.any_append,hn,← getD_lt l hlt]
    simp only [List.any_cons,List.any_nil,hv];rfl
   repeat' ((first|refine plE [] hm ?_ ?_|refine pC ?_|refine pQC ?_|refine pU ?_|refine pif ?_ ?_<;>intro h<;>try exact pN h)<;>push_cast [-List.reduceReplicate,O,U])
   exact ⟨k+1,⟨by omega,hn2⟩,by (refine weak_fg ?_;push_cast [-List.reduceReplicate,O,U]),by omega⟩
 ·have hk2:k=l.length:=by omega
  subst hk2
  rw [List.take_length] at hn
  rw [hn] at hR
  repeat' ((first|refine pC ?_|refine pQC ?_|refine pU ?_|refine pif ?_ ?_<;>intro h<;>try exact pN h)<;>push_cast [-List.reduceReplicate,O,U])
  (refine retK_of [] ?_;push_cast [-List.reduceReplicate,O,U,hR])
end Go.Proofs.YtmbbkfffcflfcaaGreatDoor
namespace Go.Proofs.YtmbbkfffcflfcaaGreatDoor
open Go.RowKit
open IntWalk renaming iteOmega → O, toNatUp → U
set_option linter.unusedVariables false
set_option linter.unusedSimpArgs false
def hasN (d:Dev):Bool:=decide (d.kind=2) || decide (d.kind=3)
def numsM (d:Dev):Bool:=((decide (1≤d.index) && decide (d.index≤1073741824)) && (decide (0≤d.parent) && decide (d.parent≤1073741824))) && !decide (d.parent=d.index)
def namedM (d:Dev):Bool:=(((validS d.name && validS d.original) && validS d.subsystem) && (decide (d.driver=⟨#[]⟩) || validS d.driver)) && textS d.alias_
def kindM (d:Dev):Bool:=if d.kind=4 then ifaceS d.name && ifaceS d.original else (decide (1≤d.kind) && decide (d.kind≤3)) && decide (d.name=d.original)
def numberM (d:Dev):Bool:=if hasN d then decide (1≤d.number) && decide (d.number≤1073741824) else decide (d.number=0)
def attrB (a:Atr):Bool:=(validS a.name && decide (a.value≠⟨#[]⟩)) && textS a.value
def sortedM (l:List Atr):Bool:=(List.range (l.length - 1)).all fun j=>bless (l.getD j default).name (l.getD (j+1) default).name
def attrsB (l:List Atr):Bool:=sortedM l && l.all attrB
def checkM (d:Dev):Int:=if !numsM d then 32 else if !namedM d then 30 else if !kindM d then 31 else if !numberM d then 32 else if 24 < d.attrs.length then 34 else if !attrsB d.attrs then 33 else if hasN d && !linkS (nodeS d.original) then 30 else 0
def nodeM (d:Dev):ByteArray:=if hasN d then nodeS d.original else ⟨#[]⟩
theorem sorted_next {l:List Atr} {k:Nat} (h:∀ j,j < k → bless (l.getD j default).name (l.getD (j+1) default).name=true) (hn:bless (l.getD k default).name (l.getD (k+1) default).name=true):∀ j,j < k+1 → bless (l.getD j default).name (l.getD (j+1) default).name=true:=fun j hj=>by
 by_cases e:j=k
 ·rw [e];exact hn
 ·exact h j (by omega)
theorem sorted_t {l:List Atr} {k:Nat} (hk:l.length≤k+1) (h:∀ j,j < k → bless (l.getD j default).name (l.getD (j+1) default).name=true):sortedM l=true:=List.all_eq_true.2 fun j hj=>h j (by have:=List.mem_range.1 hj;omega)
theorem sorted_f {l:List Atr} {k:Nat} (hk:k+1 < l.length) (h:bless (l.getD k default).name (l.getD (k+1) default).name=false):sortedM l=false:=List.all_eq_false.2 ⟨k,List.mem_range.2 (by omega),by rw [h];decide⟩
theorem nodeS_fit {s:ByteArray}:(nodeS s).size=s.size:=by
 have key:∀ (k:Nat) (l:List UInt8),(Lib.replaceK [33] [47] k l).length=l.length:=by
  intro k
  induction k with
  | zero=>intro l;rfl
  | succ k ih =>
   intro l
   rw [Lib.replaceK]
   split
   ·rfl
   ·rename_i h
    have hg:=Lib.index_ge l [33]
    have hl:(Lib.index l [33]).toNat < l.length:=by
     have h':Lib.index l [33] ≠ -1:=by simpa using h
     have lt:∀ l:List UInt8,Lib.index l [33] < l.length∨Lib.index l [33] = -1:=by
      intro l
      induction l with
      | nil=>exact .inr rfl
      | cons b l ih =>
       rw [Lib.index]
       split
       ·exact .inl (by simp only [List.length_cons];omega)
       ·split
        ·exact .inr rfl
        ·rename_i h2
         rcases ih with ih|ih
         ·exact .inl (by simp only [List.length_cons];omega)
         ·rw [ih] at h2;simp at h2
     rcases lt l with h2|h2
     ·omega
     ·exact absurd h2 h'
    simp only [List.length_append,List.length_take,ih,List.length_drop,List.length_cons,List.length_nil]
    omega
 show (Lib.replaceAll s.data.toList [33] [47]).length=_
 unfold Lib.replaceAll Lib.replace
 rw [if_neg (by decide),key]
 rfl
def findD (l:List Dev) (n:Int):Option Dev:=l.find? fun d=>decide (d.index=n)
def chainGo (l:List Dev):Nat → Int → List Dev
 | 0,_=>[]
 | k+1,n=>match findD l n with
  | none=>[]
  | some d=>d :: chainGo l k d.parent
def chainM (l:List Dev) (n:Int):List Dev:=chainGo l l.length n
def origM (l:List Dev) (n:Int):List ByteArray:=((chainM l n).map Dev.original).reverse
def joinP (ps:List ByteArray):ByteArray:=ps.foldl (fun s p=>s++⟨#[47]⟩++p) ⟨#[]⟩
def placeM (l:List Dev) (n:Int):ByteArray:=joinP (origM l n)
structure Okt (l:List Dev):Prop where
 pos:∀ d ∈ l,1≤d.index
 nodup:(l.map Dev.index).Nodup
 par:∀ (i:Nat) (h:i < l.length),l[i].parent=0∨∃ (j:Nat) (hj:j < i),l[j].index=l[i].parent
 val:∀ d ∈ l,validS d.original=true
 dist:∀ d ∈ l,∀ e ∈ l,origM l d.index=origM l e.index → d=e
theorem findD_some {l:List Dev} {n:Int} {d:Dev} (h:findD l n=some d):d ∈ l∧d.index=n :=
 ⟨List.mem_of_find?_eq_some h,by simpa using List.find?_some h⟩
theorem findD_none {l:List Dev} {n:Int}:findD l n=none ↔ ∀ d ∈ l,d.index≠n:=by
 unfold findD
 rw [List.find?_eq_none]
 simp
theorem findD_mem {l:List Dev} (hn:(l.map Dev.index).Nodup) {d:Dev} (hd:d ∈ l):findD l d.index=some d:=by
 induction l with
 | nil=>simp at hd
 | cons x l ih =>
  unfold findD
  rw [List.map_cons,List.nodup_cons] at hn
  by_cases he:x.index=d.index
  ·rw [List.find?_cons_of_pos (by simpa using he)]
   rcases List.mem_cons.1 hd with rfl|hd
   ·rfl
   ·exact absurd (by rw [he];exact List.mem_map.2 ⟨d,hd,rfl⟩) hn.1
  ·rw [List.find?_cons_of_neg (by simpa using he)]
   rcases List.mem_cons.1 hd with rfl|hd
   ·exact absurd rfl he
   ·exact ih hn.2 hd
theorem chainGo_none {l:List Dev} {n:Int} (h:findD l n=none) (k:Nat):chainGo l k n=[]:=by
 cases k with
 | zero=>rfl
 | succ k=>rw [chainGo,h]
theorem chainGo_some {l:List Dev} {n:Int} {d:Dev} (h:findD l n=some d) (k:Nat):chainGo l (k+1) n=d :: chainGo l k d.parent:=by rw [chainGo,h]
structure Okp (l:List Dev):Prop where
 pos:∀ d ∈ l,1≤d.index
 nodup:(l.map Dev.index).Nodup
 par:∀ (i:Nat) (h:i < l.length),l[i].parent=0∨∃ (j:Nat) (hj:j < i),l[j].index=l[i].parent
theorem Okt.p {l:List Dev} (h:Okt l):Okp l:=⟨h.pos,h.nodup,h.par⟩
theorem find0 {l:List Dev} (h:∀ d ∈ l,1≤d.index) {n:Int} (hn:n≤0):findD l n=none:=findD_none.2 fun d hd e=>by have:=h d hd;omega
theorem chain_fuel {l:List Dev} (h:Okp l):∀ (i:Nat) (hi:i < l.length) (k:Nat),i+1≤k → chainGo l k l[i].index=chainGo l (i+1) l[i].index:=by
 intro i
 induction i using Nat.strongRecOn with
 | ind i ih =>
  intro hi k hk
  obtain ⟨k',rfl⟩:∃ k',k=k'+1:=⟨k - 1,by omega⟩
  have hf:=findD_mem h.nodup (List.getElem_mem hi)
  rw [chainGo_some hf,chainGo_some hf]
  congr 1
  rcases h.par i hi with h0|⟨j,hj,hp⟩
  ·rw [h0,chainGo_none (find0 h.pos (by omega)),chainGo_none (find0 h.pos (by omega))]
  ·rw [← hp,ih j hj (by omega) k' (by omega),ih j hj (by omega) i (by omega)]
theorem chain_step {l:List Dev} (h:Okp l) {d:Dev} (hd:d ∈ l):chainM l d.index=d :: chainM l d.parent:=by
 obtain ⟨i,hi,rfl⟩:=List.getElem_of_mem hd
 have hf:=findD_mem h.nodup hd
 unfold chainM
 obtain ⟨n,hn⟩:∃ n,l.length=n+1:=⟨l.length - 1,by omega⟩
 rw [hn,chainGo_some hf]
 congr 1
 rcases h.par i hi with h0|⟨j,hj,hp⟩
 ·rw [h0,chainGo_none (find0 h.pos (by omega)),chainGo_none (find0 h.pos (by omega))]
 ·rw [← hp,chain_fuel h j (by omega) n (by omega),chain_fuel h j (by omega) (n+1) (by omega)]
theorem chain_none {l:List Dev} {n:Int} (h:findD l n=none):chainM l n=[]:=chainGo_none h _
theorem orig_step {l:List Dev} (h:Okp l) {d:Dev} (hd:d ∈ l):origM l d.index=origM l d.parent++[d.original]:=by
 unfold origM
 rw [chain_step h hd]
 simp
theorem orig_none {l:List Dev} {n:Int} (h:findD l n=none):origM l n=[]:=by unfold origM;rw [chain_none h];rfl
theorem orig_ne {l:List Dev} (h:Okp l) {d:Dev} (hd:d ∈ l):origM l d.index≠[]:=by rw [orig_step h hd];simp
theorem chainGo_len {l:List Dev}:∀ (k:Nat) (n:Int),(chainGo l k n).length≤k
 | 0,_=>by simp [chainGo]
 | k+1,n=>by
  rw [chainGo]
  split
  ·simp
  ·have:=chainGo_len (l:=l) k (by assumption:Dev).parent
   simp only [List.length_cons];omega
theorem chain_len (l:List Dev) (n:Int):(chainM l n).length≤l.length:=chainGo_len _ _
theorem orig_len (l:List Dev) (n:Int):(origM l n).length≤l.length:=by unfold origM;rw [List.length_reverse,List.length_map];exact chain_len l n
theorem chainGo_mem {l:List Dev}:∀ (k:Nat) (n:Int) (d:Dev),d ∈ chainGo l k n → d ∈ l
 | 0,_,d,h=>by simp [chainGo] at h
 | k+1,n,d,h=>by
  rw [chainGo] at h
  split at h
  ·simp at h
  ·rename_i x hx
   rcases List.mem_cons.1 h with rfl|h
   ·exact (findD_some hx).1
   ·exact chainGo_mem k _ d h
theorem joinP_snoc (ps:List ByteArray) (p:ByteArray):joinP (ps++[p])=joinP ps++⟨#[47]⟩++p:=by simp [joinP]
def joinL (ps:List (List UInt8)):List UInt8:=(ps.map fun p=>47 :: p).flatten
theorem joinP_list (ps:List ByteArray):(joinP ps).data.toList=joinL (ps.map fun p=>p.data.toList):=by
 have key:∀ (ps:List ByteArray) (s:ByteArray),(ps.foldl (fun s p=>s++⟨#[47]⟩++p) s).data.toList=s.data.toList++joinL (ps.map fun p=>p.data.toList):=by
  intro ps
  induction ps with
  | nil=>intro s;simp [joinL]
  | cons p ps ih =>
   intro s
   rw [List.foldl_cons,ih]
   simp [joinL]
 have:=key ps ⟨#[]⟩
 simpa [joinP] using this
theorem joinL_cons (p:List UInt8) (ps:List (List UInt8)):joinL (p :: ps)=47 :: (p++joinL ps):=by simp [joinL]
theorem valid_slash {s:ByteArray} (h:validS s=true):(47:UInt8) ∉ s.data.toList:=fun hm=>by
 unfold validS at h
 simp only [Bool.and_eq_true] at h
 have:=List.all_eq_true.1 h.2 47 hm
 revert this
 decide
theorem orig_val {l:List Dev} (h:∀ d ∈ l,validS d.original=true) (n:Int):∀ p ∈ origM l n,validS p=true:=fun p hp=>by
 unfold origM at hp
 rw [List.mem_reverse] at hp
 obtain ⟨d,hd,rfl⟩:=List.mem_map.1 hp
 exact h d (chainGo_mem _ _ d hd)
def beneath (a b:ByteArray):Bool:=Lib.hasPrefix b.data.toList (a++⟨#[47]⟩).data.toList
def clashM (a b:Dev):Bool:=((decide (a.kind=4) && decide (b.kind=4)) && decide (a.name=b.name)) || ((hasN a && hasN b) && (((decide (a.kind=b.kind) && decide (a.number=b.number)) || decide (nodeM a=nodeM b)) || (beneath (nodeM a) (nodeM b) || beneath (nodeM b) (nodeM a))))
def atM (l:List Dev) (own:List ByteArray) (n:Nat):Nat:=(List.range n).foldl (fun a i=>if cmpL (origM l (l.getD i default).index) own < 0 then i+1 else a) 0
theorem atM_succ (l:List Dev) (own:List ByteArray) (n:Nat):atM l own (n+1)=if cmpL (origM l (l.getD n default).index) own < 0 then n+1 else atM l own n:=by
 unfold atM
 rw [List.range_succ,List.foldl_append]
 rfl
theorem atM_le (l:List Dev) (own:List ByteArray):∀ n,atM l own n≤n
 | 0=>by simp [atM]
 | n+1=>by
  rw [atM_succ]
  have:=atM_le l own n
  split<;>omega
theorem atM_ge (l:List Dev) (own:List ByteArray) {j:Nat} (h:cmpL (origM l (l.getD j default).index) own < 0):∀ n,j < n → j+1≤atM l own n
 | 0,hn=>by omega
 | n+1,hn=>by
  rw [atM_succ]
  by_cases e:j=n
  ·subst e;rw [if_pos h];exact Nat.le_refl _
  ·have:=atM_ge l own h n (by omega)
   split<;>omega
def bad1 (l:List Dev) (own:List ByteArray) (d:Dev) (x:Dev):Bool:=decide (cmpL (origM l x.index) own=0) || clashM x d
def ownM (l:List Dev) (d:Dev):List ByteArray:=origM l d.parent++[d.original]
def insErr (l:List Dev) (d:Dev):Int :=
 if checkM d≠0 then 41 else if (findD l d.index).isSome then 44 else if d.parent≠0∧(findD l d.parent).isNone then 42 else if 256≤l.length then 40 else if 7 < (ownM l d).length then 46 else if l.any (bad1 l (ownM l d) d) then 44 else 0
def insT (l:List Dev) (d:Dev):List Dev:=l.take (atM l (ownM l d) l.length)++[d]++l.drop (atM l (ownM l d) l.length)
theorem cmpL_pre:∀ (a:List ByteArray) (x:ByteArray),cmpL a (a++[x]) < 0
 | [],x=>by simp [cmpL]
 | y :: a,x=>by rw [List.cons_append,cmpL,if_pos rfl];exact cmpL_pre a x
theorem checkM_nums {d:Dev} (h:checkM d=0):numsM d=true:=by
 cases hn:numsM d with
 | true=>rfl
 | false=>unfold checkM at h;rw [hn] at h;simp at h
theorem checkM_named {d:Dev} (h:checkM d=0):namedM d=true:=by
 cases hn:namedM d with
 | true=>rfl
 | false =>
  have h1:=checkM_nums h
  unfold checkM at h
  rw [hn,h1] at h
  simp at h
theorem check_index {d:Dev} (h:checkM d=0):1≤d.index∧d.index≤1073741824:=by
 have:=checkM_nums h
 unfold numsM at this
 simp only [Bool.and_eq_true,decide_eq_true_eq] at this
 exact this.1.1
theorem check_orig {d:Dev} (h:checkM d=0):validS d.original=true:=by
 have:=checkM_named h
 unfold namedM at this
 simp only [Bool.and_eq_true] at this
 exact this.1.1.1.2
end Go.Proofs.YtmbbkfffcflfcaaGreatDoor
