/- What the program computes, and the plain laws of it, part 22. -/
import Derived.Test.YtmjffgienmcabaaGreatDoorS21
namespace Go.Proofs.YtmjffgienmcabaaGreatDoor
attribute [local irreducible] PL QL PWPr PCalls Weak RetK Kontr PA
open Go.RowKit
open IntWalk renaming iteOmega → iO, toNatUp → tN
set_option linter.unusedVariables false
set_option linter.unusedSimpArgs false
set_option maxRecDepth 20000
def litD (e:El):List D:=[.v (.int .u8 (e.lit:Int))]
theorem nums_lit (l:List El):nums (l.map litD)=some (l.map fun e=>(e.lit:Int)):=by
 have:l.map litD=(l.map fun e=>(e.lit:Int)).map fun n=>[D.v (.int .u8 n)]:=by rw [List.map_map];rfl
 rw [this,nums_map]
def begB (l:List El):ByteArray:=⟨(beginL l).toArray⟩
theorem begin_take:∀ (l:List El) (k:Nat),k≤l.length → (∀ e ∈ l.take k,e.lit≠0) → (∀ h:k < l.length,l[k].lit=0) → beginL l=(l.take k).map fun e=>UInt8.ofNat e.lit
 | [],k,hk,_,_=>by simp [beginL]
 | e :: l,0,_,_,h=>by
  have:=h (by simp)
  simp only [List.getElem_cons_zero] at this
  simp [beginL,this]
 | e :: l,k+1,hk,h1,h2=>by
  have he:e.lit≠0:=h1 e (by simp)
  unfold beginL
  rw [if_neg he,List.take_succ_cons,List.map_cons,begin_take l k (by simpa using hk) (fun x hx=>h1 x (by simp [hx])) (fun h=>by have:=h2 (by simpa using h);simpa using this)]
theorem begin_str {l:List El} {k:Nat} (hk:k≤l.length) (h:∀ e ∈ l.take k,e.lit≠0) (he:k < l.length → (l.getD k default).lit=0):strOfNums ((l.take k).map fun e=>(e.lit:Int))=begB l:=by
 unfold begB strOfNums
 rw [begin_take l k hk h (fun h=>by have:=he h;rwa [getD_lt l h] at this),List.map_map]
 congr 2
theorem takeLit_snoc {l:List El} {k:Nat} (hk:k < l.length):(l.take (k+1)).map litD=(l.take k).map litD++[litD (l.getD k default)]:=by
 rw [List.take_succ_eq_append_getElem hk,List.map_append,getD_lt l hk];rfl
set_option maxRecDepth 20000 in
set_option maxHeartbeats 4000000 in
theorem begin_pure (l:List El) (hl:OkEl l) (hll:l.length≤1000000) :
  PCalls Tryz.prog 81 [.c (.sl 129 (l.map El.d))] [] fun r os=>r = .c (.v (.string (begB l)))∧os=[]:=by
 refine pcalls_of Tryz.func81 rfl (by simp [Tryz.ntmps81]) ?_
 rw [Tryz.ntmps81,Tryz.results81]
 push_cast [-List.reduceReplicate,iO,tN]
 have cB:CutB 6 [6,7,8]:=trivial
 repeat' (first|((first|refine pC ?_|refine pQC ?_|refine pU ?_);push_cast [-List.reduceReplicate,iO,tN])|(refine pif (fun h=>?_) (fun h=>?_)<;>first|exact pN h|push_cast [-List.reduceReplicate,iO,tN]))
 refine pwp_weak (weak_adopt 3 5 1 (by omega) (by push_cast [-List.reduceReplicate,iO,tN])) ?_
 push_cast [-List.reduceReplicate,iO,tN]
 (apply pwp_loop3 (α:=Nat) 6 [6,7,8] (fun k=>[(8,.c (.v (.int .i64 k))),(3,.c (.own 0 (k)))]) (fun k=>[(0,.arr 5 1 ((l.take k).map litD))]) (fun k=>k≤l.length∧(∀ e ∈ l.take k,e.lit≠0)) (fun k=>l.length - k) (0);(focus ((try push_cast [-List.reduceReplicate,iO,tN]);rfl));(focus exact ⟨by omega,by simp⟩);(focus ((refine weak_fg ?_;try push_cast [-List.reduceReplicate,iO,tN]))))
 rintro k ⟨hk,hpre⟩
 have htk:((l.take k).map litD).take k=(l.take k).map litD:=List.take_of_length_le (by simp;omega)
 push_cast [-List.reduceReplicate,iO,tN,htk]
 by_cases hlt:k < l.length
 ·have h127:=okEl_get hl hlt
  have hts:=takeLit_snoc hlt
  by_cases h0:(l.getD k default).lit=0
  ·have hstr:=begin_str hk hpre (fun _=>h0)
   have hn:=nums_lit (l.take k)
   refine pwp_weak (weak_frz 0 (Nat.zero_le _)) ?_
   push_cast [-List.reduceReplicate,iO,tN,htk]
   repeat' (first|((first|refine pC ?_|refine pQC ?_|refine pU ?_);push_cast [-List.reduceReplicate,iO,tN,El.d,h0,h127,hn,hstr])|(refine pif (fun h=>?_) (fun h=>?_)<;>first|exact pN h|push_cast [-List.reduceReplicate,iO,tN,El.d,h0,h127,hn,hstr]))
   (refine retK_of [] ?_;push_cast [-List.reduceReplicate,iO,tN])
  ·have hpre2:∀ e ∈ l.take (k+1),e.lit≠0:=fun e he=>by
    rw [List.take_succ_eq_append_getElem hlt,List.mem_append] at he
    rcases he with he|he
    ·exact hpre e he
    ·rw [List.mem_singleton] at he
     subst he
     rwa [getD_lt l hlt] at h0
   have h0':¬ ((l.getD k default).lit:Int)=0:=by omega
   repeat' (first|((first|refine pC ?_|refine pQC ?_|refine pU ?_);push_cast [-List.reduceReplicate,iO,tN,El.d,h0',h127,htk])|(refine pif (fun h=>?_) (fun h=>?_)<;>first|exact pN h|push_cast [-List.reduceReplicate,iO,tN,El.d,h0',h127,htk]))
   exact ⟨k+1,⟨by omega,hpre2⟩,by (refine weak_fg ?_;push_cast [-List.reduceReplicate,iO,tN,hts,litD]),by omega⟩
 ·have hstr:=begin_str hk hpre (fun h=>absurd h hlt)
  have hn:=nums_lit (l.take k)
  refine pwp_weak (weak_frz 0 (Nat.zero_le _)) ?_
  push_cast [-List.reduceReplicate,iO,tN,htk]
  repeat' (first|((first|refine pC ?_|refine pQC ?_|refine pU ?_);push_cast [-List.reduceReplicate,iO,tN,hn,hstr])|(refine pif (fun h=>?_) (fun h=>?_)<;>first|exact pN h|push_cast [-List.reduceReplicate,iO,tN,hn,hstr]))
  (refine retK_of [] ?_;push_cast [-List.reduceReplicate,iO,tN])
theorem altGo_ne {p:ByteArray} {i:Nat} {l:List (List El)} {x:List El}:altGo p i l x≠some []:=by
 fun_induction altGo p i l x<;>first
  | (intro h;cases h;done)
  | (intro h;injection h with h;simp at h;done)
  | (rename_i ih;exact ih)
theorem altsM_ne (p:ByteArray):¬ altsM p=some []:=altGo_ne
theorem cpre_cut:∀ (a b:List UInt8) (n:Nat),n≤a.length → n≤b.length → a.take n=b.take n → (∀ (h1:n < a.length) (h2:n < b.length),a[n]≠b[n]) → cpre a b=a.take n
 | [],[],n,_,_,_,_=>by simp [cpre]
 | [],_ :: _,n,h,_,_,_=>by simp [cpre]
 | _ :: _,[],n,_,h,_,_=>by
  have h0:n=0:=by simpa using h
  subst h0
  simp [cpre]
 | x :: a,y :: b,0,_,_,_,h=>by
  have:=h (by simp) (by simp)
  simp only [List.getElem_cons_zero] at this
  simp [cpre,this]
 | x :: a,y :: b,n+1,h1,h2,h3,h4=>by
  simp only [List.take_succ_cons,List.cons.injEq] at h3
  obtain ⟨rfl,h3⟩:=h3
  unfold cpre
  rw [if_pos rfl,List.take_succ_cons,cpre_cut a b n (by simpa using h1) (by simpa using h2) h3 (fun h5 h6=>by have:=h4 (by simpa using h5) (by simpa using h6);simpa using this)]
def cpreB (q s:ByteArray):ByteArray:=⟨(cpre q.data.toList s.data.toList).toArray⟩
theorem cpreB_cut {q s:ByteArray} {n:Nat} (h1:n≤q.size) (h2:n≤s.size) (h3:q.data.toList.take n=s.data.toList.take n) (h4:n < q.size → n < s.size → s.data.toList.getD n 0≠q.data.toList.getD n 0):q.extract 0 n=cpreB q s:=by
 have hq:q.data.toList.length=q.size:=rfl
 have hs:s.data.toList.length=s.size:=rfl
 unfold cpreB
 rw [cpre_cut q.data.toList s.data.toList n (by omega) (by omega) h3 (fun h5 h6=>by
  have:=h4 (by omega) (by omega)
  rw [List.getD_eq_getElem?_getD,List.getD_eq_getElem?_getD,List.getElem?_eq_getElem h5,List.getElem?_eq_getElem h6] at this
  exact fun e=>this e.symm)]
 apply ByteArray.ext
 apply Array.ext'
 rw [ByteArray.data_extract,Array.toList_extract,List.extract_eq_take_drop]
 simp
def preB (x:List El) (r:List (List El)) (k:Nat):ByteArray:=⟨((r.take k).foldl (fun a y=>cpre a (beginL y)) (beginL x)).toArray⟩
theorem preB_next {x:List El} {r:List (List El)} {k:Nat} (hk:k < r.length):preB x r (k+1)=cpreB (preB x r k) (begB (r.getD k default)):=by
 unfold preB cpreB begB
 rw [List.take_succ_eq_append_getElem hk,List.foldl_append,getD_lt r hk]
 rfl
theorem cpre_len (a b:List UInt8):(cpre a b).length≤a.length:=(cpre_left a b).length_le
theorem begin_len:∀ l:List El,(beginL l).length≤l.length
 | []=>by simp [beginL]
 | e :: l=>by
  unfold beginL
  split
  ·simp
  ·have:=begin_len l
   simp only [List.length_cons]
   omega
theorem preB_size (x:List El) (r:List (List El)) (k:Nat):(preB x r k).size≤x.length:=by
 have h:∀ (r:List (List El)) (a:List UInt8),(r.foldl (fun a y=>cpre a (beginL y)) a).length≤a.length:=fun r=>by
  induction r with
  | nil=>intro a;exact Nat.le_refl _
  | cons y r ih=>intro a;rw [List.foldl_cons];exact Nat.le_trans (ih _) (cpre_len _ _)
 have h2:=h (r.take k) (beginL x)
 have h3:=begin_len x
 have h4:(preB x r k).size=((r.take k).foldl (fun a y=>cpre a (beginL y)) (beginL x)).length:=by unfold preB ByteArray.size;simp
 omega
theorem begB_size (l:List El):(begB l).size≤l.length:=by
 have:(begB l).size=(beginL l).length:=by unfold begB ByteArray.size;simp
 have:=begin_len l
 omega
theorem take_same {a b:List UInt8} {n:Nat} (h1:n < a.length) (h2:n < b.length) (h:a.take n=b.take n) (he:b.getD n 0=a.getD n 0):a.take (n+1)=b.take (n+1):=by
 rw [List.getD_eq_getElem?_getD,List.getD_eq_getElem?_getD,List.getElem?_eq_getElem h1,List.getElem?_eq_getElem h2] at he
 rw [List.take_succ_eq_append_getElem h1,List.take_succ_eq_append_getElem h2,h]
 simp only [Option.getD_some] at he
 rw [he]
set_option maxRecDepth 20000 in
set_option maxHeartbeats 4000000 in
theorem prefix_pure (p:ByteArray) (hf:p.size≤9223372036854775807) :
  PCalls Tryz.prog 47 [.c (.v (.string p))] [] fun r os=>r = .two (.c (.v (.string (if globM p=0 then prefB p else ⟨#[]⟩)))) (.c (.v (.int .i64 (globM p))))∧os=[]:=by
 have hp:=parse_pure p hf
 unfold parseR at hp
 refine pcalls_of Tryz.func47 rfl (by simp [Tryz.ntmps47]) ?_
 rw [Tryz.ntmps47,Tryz.results47]
 push_cast [-List.reduceReplicate,iO,tN]
 have cB:CutB 12 [24,25,26]:=trivial
 by_cases h0:globM p=0
 case neg =>
  rw [if_neg h0] at hp
  repeat' (first|((refine plc [] (hp) ?_ ?_;push_cast [-List.reduceReplicate,iO,tN,h0];rintro r os ⟨rfl,rfl⟩;push_cast [-List.reduceReplicate,iO,tN,h0]))|((first|refine pC ?_|refine pQC ?_|refine pU ?_);push_cast [-List.reduceReplicate,iO,tN,h0])|(refine pif (fun h=>?_) (fun h=>?_)<;>first|exact pN h|push_cast [-List.reduceReplicate,iO,tN,h0]))
  (refine retK_of [] ?_;push_cast [-List.reduceReplicate,iO,tN,h0])
 rw [if_pos h0,h0] at hp
 obtain ⟨L,hL⟩:∃ L,altsM p=some L:=by
  unfold globM at h0
  split at h0
  ·cases h0
  ·split at h0
   ·cases h0
   ·cases e:altsM p with
    | none=>rw [e] at h0;simp at h0
    | some L=>exact ⟨L,rfl⟩
 rw [hL] at hp
 simp only [Option.getD_some] at hp
 have hok:=altsM_ok hL
 have hps:p.size≤256:=by
  unfold globM at h0
  split at h0
  ·cases h0
  ·omega
 have hlen:L.length≤p.size+1:=altGo_len (Nat.zero_le _) (Nat.zero_le _) hL
 cases L with
 | nil=>exact absurd hL (altsM_ne p)
 | cons x r =>
 have hlen2:r.length≤256:=by simp only [List.length_cons] at hlen;omega
 have hx:=hok x (by simp)
 have hbx:=begin_pure x hx.1 (by omega)
 have hRx:prefB p=preB x r r.length:=by
  unfold prefB prefM preB
  rw [hL,List.take_length]
  rfl
 repeat' (first|((refine plc [] (hp) ?_ ?_;push_cast [-List.reduceReplicate,iO,tN,altsD];rintro r os ⟨rfl,rfl⟩;push_cast [-List.reduceReplicate,iO,tN,altsD]))|((refine plc [] (hbx) ?_ ?_;push_cast [-List.reduceReplicate,iO,tN,altsD];rintro r os ⟨rfl,rfl⟩;push_cast [-List.reduceReplicate,iO,tN,altsD]))|((first|refine pC ?_|refine pQC ?_|refine pU ?_);push_cast [-List.reduceReplicate,iO,tN,altsD])|(refine pif (fun h=>?_) (fun h=>?_)<;>first|exact pN h|push_cast [-List.reduceReplicate,iO,tN,altsD]))
 have hpz:preB x r 0=begB x:=rfl
 (apply pwp_loop3 (α:=Nat) 12 [24,25,26] (fun k=>[(26,.c (.v (.int .i64 k))),(6,.c (.v (.string (preB x r k))))]) (fun k=>[]) (fun k=>k≤r.length) (fun k=>r.length - k) (0);(focus ((try push_cast [-List.reduceReplicate,iO,tN]);rfl));(focus exact (by omega));(focus ((refine weak_fg ?_;try push_cast [-List.reduceReplicate,iO,tN]);(try (exact hpz.symm)))))
 intro k hk
 have hsz:=preB_size x r k
 push_cast [-List.reduceReplicate,iO,tN]
 by_cases hlt:k < r.length
 ·have hy:=hok (r.getD k default) (by rw [getD_lt r hlt];simp)
  have hby:=begin_pure (r.getD k default) hy.1 (by omega)
  have hys:=begB_size (r.getD k default)
  have hnx:=preB_next (x:=x) hlt
  obtain ⟨q,hq⟩:∃ q,preB x r k=q:=⟨_,rfl⟩
  obtain ⟨s,hs⟩:∃ s,begB (r.getD k default)=s:=⟨_,rfl⟩
  rw [hq] at hsz hnx ⊢
  rw [hs] at hby hys hnx
  repeat' (first |  ((refine plc [] (hby) ?_ ?_;push_cast [-List.reduceReplicate,iO,tN];rintro r os ⟨rfl,rfl⟩;push_cast [-List.reduceReplicate,iO,tN]))  | ((first|refine pC ?_|refine pQC ?_|refine pU ?_);push_cast [-List.reduceReplicate,iO,tN])|(refine pif (fun h=>?_) (fun h=>?_)<;>first|exact pN h|push_cast [-List.reduceReplicate,iO,tN]))
  (apply pwp_loop3 (α:=Nat) 12 [24,25,26] (fun n=>[(10,.c (.v (.int .i64 n)))]) (fun n=>[]) (fun n=>n≤q.size∧n≤s.size∧q.data.toList.take n=s.data.toList.take n) (fun n=>q.size - n) (0);(focus ((try push_cast [-List.reduceReplicate,iO,tN]);rfl));(focus exact ⟨by omega,by omega,rfl⟩);(focus ((refine weak_fg ?_;try push_cast [-List.reduceReplicate,iO,tN]))))
  rintro n ⟨h1,h2,h3⟩
  push_cast [-List.reduceReplicate,iO,tN]
  by_cases hl2:n < q.size∧n < s.size
  ·have hmin:(n:Int) < (if (q.size:Int) < (s.size:Int) then (q.size:Int) else (s.size:Int)):=by split<;>omega
   by_cases hb:s.data.toList.getD n 0=q.data.toList.getD n 0
   ·have h3':=take_same (show n < q.data.toList.length from hl2.1) (show n < s.data.toList.length from hl2.2) h3 hb
    repeat' (first|(refine ql_min rfl rfl rfl rfl (by push_cast [-List.reduceReplicate,iO,tN,hmin,hb]) ?_;refine ql_of_qops ?_;push_cast [-List.reduceReplicate,iO,tN,hmin,hb])|((first|refine pC ?_|refine pQC ?_|refine pU ?_);push_cast [-List.reduceReplicate,iO,tN,hmin,hb])|(refine pif (fun h=>?_) (fun h=>?_)<;>first|exact pN h|push_cast [-List.reduceReplicate,iO,tN,hmin,hb]))
    exact ⟨n+1,⟨by omega,by omega,h3'⟩,by (refine weak_fg ?_;push_cast [-List.reduceReplicate,iO,tN]),by omega⟩
   ·have hcut:=cpreB_cut h1 h2 h3 (fun _ _=>hb)
    have hb':¬ ((s.data.toList.getD n 0).toNat:Int)=((q.data.toList.getD n 0).toNat:Int):=fun e=>hb (UInt8.toNat_inj.1 (by omega))
    repeat' (first|(refine ql_min rfl rfl rfl rfl (by push_cast [-List.reduceReplicate,iO,tN,hmin,hb']) ?_;refine ql_of_qops ?_;push_cast [-List.reduceReplicate,iO,tN,hmin,hb'])|((first|refine pC ?_|refine pQC ?_|refine pU ?_);push_cast [-List.reduceReplicate,iO,tN,hmin,hb'])|(refine pif (fun h=>?_) (fun h=>?_)<;>first|exact pN h|push_cast [-List.reduceReplicate,iO,tN,hmin,hb']))
    exact ⟨k+1,by omega,by (refine weak_fg ?_;push_cast [-List.reduceReplicate,iO,tN,hnx,hcut]),by omega⟩
  ·have hmin:¬ (n:Int) < (if (q.size:Int) < (s.size:Int) then (q.size:Int) else (s.size:Int)):=by split<;>omega
   have hcut:=cpreB_cut h1 h2 h3 (fun h5 h6=>absurd ⟨h5,h6⟩ hl2)
   repeat' (first|(refine ql_min rfl rfl rfl rfl (by push_cast [-List.reduceReplicate,iO,tN,hmin]) ?_;refine ql_of_qops ?_;push_cast [-List.reduceReplicate,iO,tN,hmin])|((first|refine pC ?_|refine pQC ?_|refine pU ?_);push_cast [-List.reduceReplicate,iO,tN,hmin])|(refine pif (fun h=>?_) (fun h=>?_)<;>first|exact pN h|push_cast [-List.reduceReplicate,iO,tN,hmin]))
   exact ⟨k+1,by omega,by (refine weak_fg ?_;push_cast [-List.reduceReplicate,iO,tN,hnx,hcut]),by omega⟩
 ·have hk2:k=r.length:=by omega
  subst hk2
  repeat' (first|((first|refine pC ?_|refine pQC ?_|refine pU ?_);push_cast [-List.reduceReplicate,iO,tN])|(refine pif (fun h=>?_) (fun h=>?_)<;>first|exact pN h|push_cast [-List.reduceReplicate,iO,tN]))
  (refine retK_of [] ?_;push_cast [-List.reduceReplicate,iO,tN,hRx,h0])
end Go.Proofs.YtmjffgienmcabaaGreatDoor
namespace Go.Proofs.YtmjffgienmcabaaGreatDoor
open Go.RowKit
open IntWalk renaming iteOmega → iO, toNatUp → tN
set_option linter.unusedVariables false
set_option linter.unusedSimpArgs false
structure Atr where
 name:ByteArray
 value:ByteArray
 deriving DecidableEq,Inhabited
def Atr.d (x:Atr):List D:=[.v (.string x.name),.v (.string x.value)]
attribute [push_cast] Atr.d
structure Dev where
 index:Int
 parent:Int
 name:ByteArray
 original:ByteArray
 subsystem:ByteArray
 driver:ByteArray
 alias_:ByteArray
 kind:Int
 number:Int
 attrs:List Atr
 deriving DecidableEq,Inhabited
def Dev.w (d:Dev) (a:E):List E:=[.v (.int .i64 d.index),.v (.int .i64 d.parent),.v (.string d.name),.v (.string d.original),.v (.string d.subsystem),.v (.string d.driver),.v (.string d.alias_),.v (.int .i64 d.kind),.v (.int .i64 d.number),a]
def Dev.e (d:Dev):List E:=d.w (.sl 2 (d.attrs.map Atr.d))
attribute [push_cast] Dev.e Dev.w
def Dev.d (d:Dev):List D:=[.v (.int .i64 d.index),.v (.int .i64 d.parent),.v (.string d.name),.v (.string d.original),.v (.string d.subsystem),.v (.string d.driver),.v (.string d.alias_),.v (.int .i64 d.kind),.v (.int .i64 d.number),.sl 2 (d.attrs.map Atr.d)]
attribute [push_cast] Dev.d
def trE (l:List Dev):List E:=[.sl 10 (l.map Dev.d)]
attribute [push_cast] trE
abbrev Fit (s:ByteArray):Prop:=s.size≤9223372036854775807
def okA (l:List Atr):Prop:=∀ a ∈ l,Fit a.name∧Fit a.value
structure Dev.ok (d:Dev):Prop where
 name:Fit d.name
 original:Fit d.original
 subsystem:Fit d.subsystem
 driver:Fit d.driver
 alias_:Fit d.alias_
 attrs:okA d.attrs
 len:d.attrs.length≤9223372036854775807
 orig:d.original.size≤1048576
theorem mem_fit {l:List ByteArray} {s:ByteArray} (h:l.all (fun s=>decide (s.size≤100))=true) (hm:s ∈ l):s.size≤100:=by
 have:=List.all_eq_true.1 h s hm
 simpa using this
theorem fit_of {s:ByteArray} {n:Nat} (h:s.size≤n) (hn:n≤1048576):Fit s:=Nat.le_trans h (Nat.le_trans hn (by decide))
structure Mod where
 name:ByteArray
 aliases:List ByteArray
 needs:List ByteArray
 pre:List ByteArray
 post:List ByteArray
 fails:Bool
 deriving DecidableEq,Inhabited
def Mod.d (m:Mod):List D:=[.v (.string m.name),.sl 1 (m.aliases.map strD),.sl 1 (m.needs.map strD),.sl 1 (m.pre.map strD),.sl 1 (m.post.map strD),.v (.bool m.fails)]
structure Ext2 where
 name:ByteArray
 value:ByteArray
 deriving DecidableEq,Inhabited
def Ext2.d (x:Ext2):List D:=[.v (.string x.name),.v (.string x.value)]
structure Cfg where
 modules:List Mod
 blocked:List ByteArray
 off:List ByteArray
 keep:List ByteArray
 extra:List Ext2
 deriving DecidableEq,Inhabited
def Cfg.d (c:Cfg):List D:=[.sl 6 (c.modules.map Mod.d),.sl 1 (c.blocked.map strD),.sl 1 (c.off.map strD),.sl 1 (c.keep.map strD),.sl 2 (c.extra.map Ext2.d)]
attribute [push_cast] Mod.d Ext2.d Cfg.d
def modOf (l:List Mod) (n:ByteArray):Option Mod:=l.find? fun m=>decide (m.name=n)
def noMod:Mod:=⟨⟨#[]⟩,[],[],[],[],false⟩
def Mod.e (m:Mod):List E:=m.d.map D.e
attribute [push_cast] Mod.e
end Go.Proofs.YtmjffgienmcabaaGreatDoor
namespace Go.Proofs.YtmjffgienmcabaaGreatDoor
attribute [local irreducible] PL QL PWPr PCalls Weak RetK Kontr
open Go.RowKit
open IntWalk renaming iteOmega → iO, toNatUp → tN
set_option linter.unusedVariables false
set_option linter.unusedSimpArgs false
set_option maxRecDepth 20000
theorem in_pure (l:List ByteArray) (s:ByteArray) (hl:l.length≤9223372036854775807) :
  PCalls Tryz.prog 15 [.c (.sl 1 (l.map strD)),.c (.v (.string s))] [] fun r os=>r = .c (.v (.bool (inM s l)))∧os=[]:=by
 refine pcalls_of Tryz.func15 rfl (by simp [Tryz.ntmps15]) ?_
 rw [Tryz.ntmps15,Tryz.results15]
 push_cast [iO,tN]
 repeat' (first|((first|refine pG ?_|refine pQ ?_|refine pU ?_);push_cast [iO,tN])|(refine pif (fun h=>?_) (fun h=>?_)<;>first|exact pN h|push_cast [iO,tN]))
 refine pwp_loop2 (α:=Nat) (fun k=>k≤l.length∧s ∉ l.take k) (fun k=>⟨[(5,.c (.v (.int .i64 k))),(0,.c (.sl 1 (l.map strD))),(1,.c (.v (.string s)))],[]⟩) (fun k=>l.length - k) 0 ⟨by omega,by simp⟩ (by (refine weak_fg ?_;push_cast [iO,tN])) ?_
 rintro k ⟨hk,hpre⟩
 by_cases hlt:k < l.length
 ·have e1:=getD_lt l hlt
  repeat' (first|((first|refine pG ?_|refine pQ ?_|refine pU ?_);push_cast [iO,tN])|(refine pif (fun h=>?_) (fun h=>?_)<;>first|exact pN h|push_cast [iO,tN]))
  ·(refine retK_of [] ?_;push_cast [iO,tN])
   rw [e1] at h
   subst h
   exact (inM_iff.2 (List.getElem_mem _)).symm
  ·refine ⟨k+1,⟨by omega,?_⟩,by (refine weak_fg ?_;push_cast [iO,tN]),by omega⟩
   rw [e1] at h
   rw [List.take_succ_eq_append_getElem hlt]
   simp only [List.mem_append,List.mem_singleton,not_or]
   exact ⟨hpre,fun e=>h e.symm⟩
 ·repeat' (first|((first|refine pG ?_|refine pQ ?_|refine pU ?_);push_cast [iO,tN])|(refine pif (fun h=>?_) (fun h=>?_)<;>first|exact pN h|push_cast [iO,tN]))
  (refine retK_of [] ?_;push_cast [iO,tN])
  rw [List.take_of_length_le (by omega)] at hpre
  exact (inM_false.2 hpre).symm
def Mod.w (m:Mod):List E:=[.v (.string ⟨#[]⟩),.v (.slice none 0 0),.v (.slice none 0 0),.v (.slice none 0 0),.v (.slice none 0 0),.v (.bool false)]
attribute [push_cast] Mod.w
theorem module_pure (l:List Mod) (n:ByteArray) (hl:l.length≤9223372036854775807) :
  PCalls Tryz.prog 32 [.c (.sl 6 (l.map Mod.d)),.c (.v (.string n))] [] fun r os=>r = .two (.agg ((modOf l n).getD noMod).e) (.c (.v (.bool (modOf l n).isSome)))∧os=[]:=by
 refine pcalls_of Tryz.func32 rfl (by simp [Tryz.ntmps32]) ?_
 rw [Tryz.ntmps32,Tryz.results32]
 push_cast [iO,tN]
 repeat' (first|((first|refine pG ?_|refine pQ ?_|refine pU ?_);push_cast [iO,tN])|(refine pif (fun h=>?_) (fun h=>?_)<;>first|exact pN h|push_cast [iO,tN]))
 refine pwp_loop2 (α:=Nat) (fun k=>k≤l.length∧∀ x ∈ l.take k,x.name≠n) (fun k=>⟨[(6,.c (.v (.int .i64 k))),(5,.c (.v (.bool false))),(4,.c (.ptr 0 0)),(0,.c (.sl 6 (l.map Mod.d))),(1,.c (.v (.string n)))],[.box 46 noMod.w]⟩) (fun k=>l.length - k) 0 ⟨by omega,by simp⟩ (by (refine weak_fg ?_;push_cast [iO,tN])) ?_
 rintro k ⟨hk,hpre⟩
 by_cases hlt:k < l.length
 ·have e1:=getD_lt l hlt
  repeat' (first|((first|refine pG ?_|refine pQ ?_|refine pU ?_);push_cast [iO,tN])|(refine pif (fun h=>?_) (fun h=>?_)<;>first|exact pN h|push_cast [iO,tN]))
  ·(refine retK_of [] ?_;push_cast [iO,tN])
   rw [e1] at h
   have hf:modOf l n=some l[k]:=by
    unfold modOf
    rw [List.find?_eq_some_iff_append]
    refine ⟨by simpa using h,l.take k,l.drop (k+1),by rw [← List.drop_eq_getElem_cons hlt,List.take_append_drop],fun x hx=>by simpa using hpre x hx⟩
   rw [e1,hf]
   simp
  ·refine ⟨k+1,⟨by omega,?_⟩,by (refine weak_fg ?_;push_cast [iO,tN]),by omega⟩
   rw [e1] at h
   rw [List.take_succ_eq_append_getElem hlt]
   intro x hx
   rcases List.mem_append.1 hx with hx|hx
   ·exact hpre x hx
   ·simp only [List.mem_singleton] at hx
    subst hx
    exact h
 ·repeat' (first|((first|refine pG ?_|refine pQ ?_|refine pU ?_);push_cast [iO,tN])|(refine pif (fun h=>?_) (fun h=>?_)<;>first|exact pN h|push_cast [iO,tN]))
  (refine retK_of [] ?_;push_cast [iO,tN])
  have hf:modOf l n=none:=by
   rw [List.take_of_length_le (by omega)] at hpre
   unfold modOf
   rw [List.find?_eq_none]
   intro x hx
   simpa using hpre x hx
  rw [hf]
  simp [noMod]
def putM (l:List ByteArray) (s:ByteArray):List ByteArray :=
 let i:=(l.takeWhile fun x=>bless x s).length
 if l.getD i default=s∧i < l.length then l else l.take i++s :: l.drop i
end Go.Proofs.YtmjffgienmcabaaGreatDoor
namespace Go.Proofs.YtmjffgienmcabaaGreatDoor
attribute [local irreducible] PL QL PWPr PCalls Weak RetK Kontr PA
open Go.RowKit
open IntWalk renaming iteOmega → iO, toNatUp → tN
set_option linter.unusedVariables false
set_option linter.unusedSimpArgs false
set_option maxRecDepth 20000
theorem clone_pure (l:List ByteArray) (hl:l.length≤1000000000) :
  PCalls Tryz.prog 55 [.c (.sl 1 (l.map strD))] [] fun r os=>r = .c (.own 0 l.length)∧os=[.arr 9 1 (l.map strD)]:=by
 refine pcalls_adopt (R:=fun r os=>(r = .c (.own 0 l.length)∧os=[.arr 9 1 (l.map strD)])∨(r = .c (.v (.slice none 0 0))∧os=[]∧l=[])) 9 1 (by omega) ?_ (by
  rintro r os (h|⟨rfl,rfl,rfl⟩)
  ·exact .inl h
  ·exact .inr ⟨rfl,rfl,rfl⟩)
 by_cases h0:l=[]
 ·subst h0
  refine pcalls_split0 (l1:=[]) (l2:=[]) fun A c=>?_
  cases A with
  | none =>
   refine PCalls.mono (R:=fun r os=>r = .c (.v (.slice none 0 0))∧os=[]) ?_ (fun r os h=>.inr ⟨h.1,h.2,rfl⟩)
   refine pcalls_of Tryz.func55 rfl (by simp [Tryz.ntmps55]) ?_
   rw [Tryz.ntmps55,Tryz.results55]
   push_cast [iO,tN]
   repeat' (first|((first|refine pG ?_|refine pQ ?_|refine pU ?_);push_cast [iO,tN])|(refine pif (fun h=>?_) (fun h=>?_)<;>first|exact pN h|push_cast [iO,tN]))
   (refine retK_of [] ?_;push_cast [iO,tN])
  | some a =>
   refine PCalls.mono (R:=fun r os=>r = .c (.own 0 0)∧os=[.arr 9 1 []]) ?_ (fun r os h=>.inl h)
   refine pcalls_of Tryz.func55 rfl (by simp [Tryz.ntmps55]) ?_
   rw [Tryz.ntmps55,Tryz.results55]
   push_cast [iO,tN]
   repeat' (first|((first|refine pG ?_|refine pQ ?_|refine pU ?_);push_cast [iO,tN])|(refine pif (fun h=>?_) (fun h=>?_)<;>first|exact pN h|push_cast [iO,tN]))
   (refine retK_of [0] ?_;push_cast [iO,tN])
 ·have h1:0 < l.length:=List.length_pos_iff.2 h0
  refine PCalls.mono (R:=fun r os=>r = .c (.own 0 l.length)∧os=[.arr 9 1 (l.map strD)]) ?_ (fun r os h=>.inl h)
  refine pcalls_of Tryz.func55 rfl (by simp [Tryz.ntmps55]) ?_
  rw [Tryz.ntmps55,Tryz.results55]
  push_cast [iO,tN]
  repeat' (first|((first|refine pG ?_|refine pQ ?_|refine pU ?_);push_cast [iO,tN])|(refine pif (fun h=>?_) (fun h=>?_)<;>first|exact pN h|push_cast [iO,tN]))
  (refine retK_of [0] ?_;push_cast [iO,tN])
set_option maxRecDepth 20000
def asc (l:List ByteArray):Prop:=l.Pairwise fun a b=>bless a b=true
theorem asc_ext:∀ {l m:List ByteArray},asc l → asc m → (∀ x,x ∈ l ↔ x ∈ m) → l=m
 | [],[],_,_,_=>rfl
 | [],b :: m,_,_,h=>by have:=(h b).2 (by simp);simp at this
 | a :: l,[],_,_,h=>by have:=(h a).1 (by simp);simp at this
 | a :: l,b :: m,hl,hm,h=>by
  obtain ⟨l1,l2⟩:=List.pairwise_cons.1 hl
  obtain ⟨m1,m2⟩:=List.pairwise_cons.1 hm
  have hab:a=b:=by
   rcases List.mem_cons.1 ((h a).1 (by simp)) with e|e
   ·exact e
   ·rcases List.mem_cons.1 ((h b).2 (by simp)) with e'|e'
    ·exact e'.symm
    ·have h1:=m1 a e
     have h2:=l1 b e'
     rw [bless_asymm h1] at h2
     cases h2
  subst hab
  congr 1
  refine asc_ext l2 m2 fun x=>⟨fun hx=>?_,fun hx=>?_⟩
  ·rcases List.mem_cons.1 ((h x).1 (by simp [hx])) with e|e
   ·subst e;have:=l1 _ hx;rw [bless_irrefl] at this;cases this
   ·exact e
  ·rcases List.mem_cons.1 ((h x).2 (by simp [hx])) with e|e
   ·subst e;have:=m1 _ hx;rw [bless_irrefl] at this;cases this
   ·exact e
theorem asc_nodup {l:List ByteArray} (h:asc l):l.Nodup:=h.imp fun h=>bless_ne h
def unB (x:List UInt8):ByteArray:=⟨x.toArray⟩
theorem unB_list (b:ByteArray):unB b.data.toList=b:=by unfold unB;rfl
theorem list_unB (x:List UInt8):(unB x).data.toList=x:=by unfold unB;rfl
theorem sorted_asc (ss:List (List UInt8)) (h:ss.Nodup):asc ((ss.mergeSort fun x y=>decide (x≤y)).map unB):=by
 have h1:(ss.mergeSort fun x y=>decide (x≤y)).Pairwise fun x y=>decide (x≤y)=true :=
  List.pairwise_mergeSort (fun a b c h1 h2=>by simp only [decide_eq_true_eq] at *;exact List.le_trans h1 h2) (fun a b=>by simp only [Bool.or_eq_true,decide_eq_true_eq];exact List.le_total a b) ss
 have h2:(ss.mergeSort fun x y=>decide (x≤y)).Nodup:=(List.mergeSort_perm ss _).nodup_iff.2 h
 rw [asc,List.pairwise_map]
 refine (h1.and h2).imp ?_
 rintro a b ⟨h3,h4⟩
 rw [bless_lt,ByteArray.toList_eq,ByteArray.toList_eq,list_unB,list_unB]
 rw [decide_eq_true_eq] at h3
 rcases Decidable.em (a < b) with h5|h5
 ·exact h5
 ·exact absurd (List.le_antisymm h3 (List.not_lt.1 h5)) h4
theorem sorted_mem (ss:List (List UInt8)) (x:ByteArray):x ∈ (ss.mergeSort fun x y=>decide (x≤y)).map unB ↔ x.data.toList ∈ ss:=by
 rw [List.mem_map]
 constructor
 ·rintro ⟨y,h,rfl⟩;rw [list_unB];exact (List.mergeSort_perm ss _).mem_iff.1 h
 ·intro h;exact ⟨_,(List.mergeSort_perm ss _).mem_iff.2 h,unB_list x⟩
open Go.RowKit Go.Maps Go.Sort Go.Shelf in
theorem sortedKeys_calls {H:Type} (Bm b nn:Nat) (D0:DataW H) (R:Value → Option (DataW H × List MemPlace)) (W:World) (hBm:Bm < W.heap.size) (hm:W.cell? ⟨Bm,0,none⟩=some (.map (some b))) (hown:W.ownsMap Tryz.prog 9 R b nn D0) (hmax:Maps.size D0≤maxLen) (hbytes:Maps.size D0 * 16≤140737488355328) :
  Calls Tryz.prog 28 #[.func (.func 52) #[] #[.pointer (some ⟨Bm,0,none⟩)]] W fun e w'=>∃ (v:Value) (ss:List (List UInt8)),e = .returned v∧ss.Perm (strKeys D0) ∧
   w'.ownsRow W.heap.size 9 1 v ss.length ((ss.mergeSort (fun x y=>decide (x≤y))).map encStr)∧(v = .slice none 0 0 ↔ ss=[])∧Below W.heap.size W w':=by
 have hseq:SeqGives Fence.wide 2 Tryz.prog 52 #[.pointer (some ⟨Bm,0,none⟩)] encStr (fun ss=>ss.Perm (strKeys D0)) (Maps.size D0) W :=
  AnyZ.keys_gives (ρ:=keys29_ren) { keys29 with } Fence.wide _ trivial rfl (by omega) Bm b nn D0 W hBm hm hown
 exact callsIn_wide.1 (AnyZ.sorted_in sorted28 Fence.wide 5 trivial trivial trivial trivial rfl (by omega) (sorts28 _) (enters_of Tryz.func49 (by kernel_rfl) rfl) 52 #[.pointer (some ⟨Bm,0,none⟩)] trivial (enters_of Tryz.func52 (by kernel_rfl) rfl) _ _ hmax hbytes _ hseq)
def R0:Value → Option (DataW Unit × List MemPlace):=fun _=>some (.nil,[])
theorem keys_rows {w:World} {I:Nat → Prop} {ag:Bool} (hku:Tryz.prog.underlying 9=some .string):∀ (l:List ByteArray) (ms:List MapEntry),(∀ x ∈ l,x.size≤maxLen) → All2 (fun e m=>m.key=MK.v e.1∧RV w I ag e.2 m.val) (setE l) ms →
  (∀ x ∈ ms,∃ y,WideElems.rd Tryz.prog 9 R0 x=some y)∧(ms.map (WideElems.rg Tryz.prog 9 R0)).map (fun p=>strOf p.1)=l.map fun x=>x.data.toList
 | [],ms,_,h=>by
  have:ms=[]:=All2.nil_l.1 h
  subst this
  simp
 | a :: l,ms,hs,h=>by
  obtain ⟨m,ms',rfl,⟨h1,h2⟩,h3⟩:=All2.cons_l.1 h
  obtain ⟨i1,i2⟩:=keys_rows hku l ms' (fun x hx=>hs x (by simp [hx])) h3
  have hkey:keyOf Tryz.prog 9 m.key=some (.string a.data.toList):=by
   rw [h1]
   simp [keyOf,hku,mapKey,MK.v,hs a (by simp)]
  have hrd:WideElems.rd Tryz.prog 9 R0 m=some (.string a.data.toList,.nil):=by simp [WideElems.rd,hkey,R0]
  refine ⟨fun x hx=>?_,?_⟩
  ·rcases List.mem_cons.1 hx with rfl|hx
   ·exact ⟨_,hrd⟩
   ·exact i1 x hx
  ·simp only [List.map_cons,WideElems.rg_of hrd,i2]
   rfl
theorem sortedD_pure (l:List ByteArray) (hnd:l.Nodup) (hsz:∀ x ∈ l,x.size≤maxLen) (hl:l.length≤1000000) :
  PCalls Tryz.prog 28 [.c (.fn (.func 52) [] [1])] [.map none false (setE l),.box 67 [.mp 0]] fun r os=>∃ m,(asc m∧m.length=l.length∧∀ x,x ∈ m ↔ x ∈ l)∧r = .c (.own 2 m.length)∧os=[.map none false (setE l),.box 67 [.mp 0],.arr 9 1 (m.map strD)]:=by
 unfold PCalls
 intro Γ w xs hm hx
 obtain ⟨y,m',rfl,h1,h2⟩:=All2.cons_l.1 hx
 rw [All2.nil_l] at h2
 subst h2
 obtain ⟨fs,rfl,hfs,hks⟩:=h1
 rw [All2.nil_l] at hfs
 have hfs:=hfs rfl
 subst hfs
 simp only [isBnd,fnV,Bool.false_eq_true]
 have hn:=hm.n
 simp only [List.length_cons,List.length_nil] at hn
 obtain ⟨c0,ms,ck,hb,hM⟩:=hm.ob 0 _ rfl
 obtain ⟨c1,bs,hbox,hbs,hroom⟩:=hm.ob 1 _ rfl
 obtain ⟨v0,m0,rfl,⟨_,rfl⟩,h3⟩:=All2.cons_l.1 hbs
 rw [All2.nil_l] at h3
 subst h3
 have hku:Tryz.prog.underlying 9=some .string:=by kernel_rfl
 obtain ⟨i1,i2⟩:=keys_rows hku l ms.toList hsz hM.rows
 have hlen:ms.size=l.length:=by rw [← Array.length_toList,← hM.rows.length];simp [setE]
 have hown:w.ownsMap Tryz.prog 9 R0 (Γ.β 0) ms.size (.map ((ms.toList.map (WideElems.rg Tryz.prog 9 R0)).foldr DataW.insert [])):=by
  refine ⟨ms,ck,hb,⟨by rw [hlen];unfold maxLen;omega,(MapKept.stamped_iff _ _).2 ⟨fun x hx=>hM.clock _ (List.mem_map.2 ⟨x,hx,rfl⟩),hM.born.imp fun h=>Nat.ne_of_lt h,?_⟩,i1⟩,Nat.le_refl _,rfl⟩
  have hk:ms.toList.map MapEntry.key=l.map Value.string:=by
   have:∀ (l:List ByteArray) (ms:List MapEntry),All2 (fun e m=>m.key=MK.v e.1∧RV w Γ.I false e.2 m.val) (setE l) ms → ms.map MapEntry.key=l.map Value.string:=by
    intro l
    induction l with
    | nil=>intro ms h;rw [show setE []=[] from rfl,All2.nil_l] at h;subst h;rfl
    | cons a l ih =>
     intro ms h
     obtain ⟨m,ms',rfl,⟨h1,_⟩,h3⟩:=All2.cons_l.1 h
     simp only [List.map_cons,ih _ h3,h1,MK.v]
   exact this l _ hM.rows
  have:(ms.toList.map MapEntry.key).Pairwise (· ≠ ·):=by
   rw [hk,List.pairwise_map]
   exact hnd.imp fun h e=>h (by injection e)
  exact List.pairwise_map.1 this
 have hsize:Maps.size (.map ((ms.toList.map (WideElems.rg Tryz.prog 9 R0)).foldr DataW.insert []))=l.length:=by
  simp only [Maps.size]
  rw [(WideShapes.sorted_perm _).length_eq,List.length_map,Array.length_toList,hlen]
 refine (sortedKeys_calls (Γ.β 1) (Γ.β 0) ms.size _ R0 w hbox.lt (by rw [hbox.cell];rfl) hown (by rw [hsize];unfold maxLen;omega) (by rw [hsize];omega)).mono ?_
 rintro e w' ⟨v,ss,rfl,hperm,hrow,hnil,hB⟩
 have hperm2:ss.Perm (l.map fun x=>x.data.toList):=by
  refine hperm.trans ?_
  simp only [strKeys]
  rw [← i2]
  exact (WideShapes.sorted_perm _).map _
 have hinj:(l.map fun x=>x.data.toList).Nodup:=by
  rw [List.Nodup,List.pairwise_map]
  exact hnd.imp fun {a b} h e=>h (by rw [← unB_list a,e,unB_list])
 have hssn:ss.Nodup:=hperm2.nodup_iff.2 hinj
 have hlm:((ss.mergeSort fun x y=>decide (x≤y)).map unB).length=l.length:=by
  rw [List.length_map,(List.mergeSort_perm ss _).length_eq,hperm2.length_eq,List.length_map]
 have hE:Ext No w w':=⟨hB.os,hB.tape,hB.output,hB.size,fun k hk _=>hB.block k hk⟩
 have hS:=Same.of_ext hE
 have hslen:ss.length=l.length:=by rw [hperm2.length_eq,List.length_map]
 have hro:∀ (Γ':G) (k:Nat),All2 (RD w' Γ'.I) (((ss.mergeSort fun x y=>decide (x≤y)).map unB).map strD).flatten ((ss.mergeSort fun x y=>decide (x≤y)).map Go.Proofs.encStr):=by
  intro Γ' k
  generalize (ss.mergeSort fun x y=>decide (x≤y))=q
  induction q with
  | nil=>trivial
  | cons a q ih=>exact ⟨by rw [RD];exact ⟨rfl,rfl⟩,ih⟩
 have fin:∀ b c,v.oneCell'=true → RO w' (Γ.push b c) Γ.n (.arr 9 1 (((ss.mergeSort fun x y=>decide (x≤y)).map unB).map strD)) → (0 < c → w.heap.size≤b) → OwnRep (Γ.push b c) Γ.n ((ss.mergeSort fun x y=>decide (x≤y)).map unB).length v →
   ∃ r os' Γ' y,Ending.returned v = .returned y∧(∃ m,(asc m∧m.length=l.length∧∀ x,x ∈ m ↔ x ∈ l)∧r = .c (.own 2 m.length)∧os'=[.map none false (setE l),.box 67 [.mp 0],.arr 9 1 (m.map strD)])∧RP w' Γ' r y∧2≤os'.length∧MemOk Γ' os' w'∧Grow 2 Γ w Γ' w':=by
  intro b c _ hro' hbc hrep
  refine ⟨_,_,Γ.push b c,v,rfl,⟨_,⟨sorted_asc ss hssn,hlm,fun x=>?_⟩,rfl,rfl⟩,⟨by simp [G.push,hn],by rw [hn] at hrep;exact hrep⟩,by simp,hm.push hS _ b c hro' hbc,grow_push hm hE b c hbc (by omega)⟩
  rw [sorted_mem,hperm2.mem_iff,List.mem_map]
  exact ⟨fun ⟨z,h,e⟩=>by rw [← unB_list x,← e,unB_list];exact h,fun h=>⟨x,h,rfl⟩⟩
 rcases Nat.eq_zero_or_pos ss.length with h0|h0
 ·have hs0:ss=[]:=List.eq_nil_of_length_eq_zero h0
  subst hs0
  have hv:=hnil.2 rfl
  subst hv
  refine fin 0 0 rfl ⟨by simp,by omega,fun _=>by simp,fun h=>absurd h (by simp [G.push,upd_same])⟩ (fun h=>absurd h (by omega)) (.inl ⟨by simp [G.push,upd_same],⟨none,rfl⟩,by simp⟩)
 ·obtain ⟨b,c,rfl,h4,h5,h6,h7,h8,h9⟩:=arr_of_own (k:=Γ.n) (Γ:=Γ) (rows:=((ss.mergeSort fun x y=>decide (x≤y)).map unB).map strD) hrow h0 (by omega) (fun r hr=>by obtain ⟨z,_,rfl⟩:=List.mem_map.1 hr;rfl) (by rw [List.length_map,hlm,hslen])
  refine fin b c rfl (h9 (Γ.push b c) (by simp [G.push,upd_same]) (by simp [G.push,upd_same]) (hro _ 0)) (fun _=>h6) (.inr ⟨by simp [G.push,upd_same,h4],by simp [G.push,upd_same,hlm,hslen],by simp [G.push,upd_same];exact h5⟩)
theorem keysOf_pure (es:List (MK × List D)) :
  PCalls Tryz.prog 29 [.c (.mp 0)] [.map none false es] fun r os=>r = .c (.fn (.func 52) [] [1])∧os=[.map none false es,.box 67 [.mp 0]]:=by
 refine pcalls_of Tryz.func29 rfl (by simp [Tryz.ntmps29]) ?_
 rw [Tryz.ntmps29,Tryz.results29]
 push_cast [iO,tN]
 repeat' (first|((first|refine pG ?_|refine pQ ?_|refine pU ?_);push_cast [iO,tN])|(refine pif (fun h=>?_) (fun h=>?_)<;>first|exact pN h|push_cast [iO,tN]))
 (refine retK_of [0,1] ?_;push_cast [iO,tN])
end Go.Proofs.YtmjffgienmcabaaGreatDoor
