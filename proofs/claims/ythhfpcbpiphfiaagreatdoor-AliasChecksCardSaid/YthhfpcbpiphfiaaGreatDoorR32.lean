/- What the program computes, and the plain laws of it, part 32. -/
import Derived.WideKeyEntry
import Derived.Sort.KeysCollected
import Derived.Shelf.Sort.Plain
import Derived.Shelf.Slices.In.SortNone
import Derived.Lib.OwnBridge
import Derived.Test.YthhfpcbpiphfiaaGreatDoorR31
namespace Go.Proofs.YthhfpcbpiphfiaaGreatDoor
open Go.RowKit
open IntWalk renaming iteOmega → iO, toNatUp → tN
set_option linter.unusedVariables false
set_option linter.unusedSimpArgs false
def prefB (p:ByteArray):ByteArray:=⟨(prefM p).toArray⟩
structure Ent where
 pat:ByteArray
 mod:ByteArray
 deriving DecidableEq,Inhabited
def Ent.d (y:Ent):List D:=[.v (.string y.pat),.v (.string y.mod)]
def idxPut (l:HRows) (y:Ent):HRows:=if globM y.pat=0 then putR l (.s (prefB y.pat)) y.d else l
def idxOf (E:List Ent):HRows:=E.foldl idxPut []
theorem idxOf_snoc (E:List Ent) (y:Ent):idxOf (E++[y])=idxPut (idxOf E) y:=by unfold idxOf;rw [List.foldl_append];rfl
def rowsAt:HRows → MK → List (List D)
 | [],_=>[]
 | (a,x) :: l,k=>if a=k then x else rowsAt l k
theorem rowsAt_putR (k k':MK) (r:List D):∀ l:HRows,rowsAt (putR l k r) k'=if k=k' then rowsAt l k++[r] else rowsAt l k'
 | []=>by
  unfold putR
  by_cases e:k=k'
  ·simp [rowsAt,e]
  ·simp [rowsAt,e]
 | (a,x) :: l=>by
  unfold putR
  by_cases e:a=k
  ·subst e
   by_cases e2:a=k'
   ·simp [rowsAt,e2]
   ·simp [rowsAt,e2]
  ·rw [if_neg e]
   by_cases e2:a=k'
   ·subst e2
    rw [if_neg (fun h:k=a=>e h.symm)]
    simp [rowsAt]
   ·simp only [rowsAt,if_neg e2,if_neg e]
    exact rowsAt_putR k k' r l
def entAt (E:List Ent) (b:ByteArray):List Ent:=E.filter fun y=>decide (globM y.pat=0) && decide (prefB y.pat=b)
theorem foldl_rows (b:ByteArray):∀ (E:List Ent) (l:HRows),rowsAt (E.foldl idxPut l) (.s b)=rowsAt l (.s b)++(entAt E b).map Ent.d
 | [],l=>by simp [entAt]
 | y :: E,l=>by
  rw [List.foldl_cons,foldl_rows b E]
  unfold idxPut entAt
  by_cases h:globM y.pat=0
  ·rw [if_pos h,rowsAt_putR]
   by_cases e:prefB y.pat=b
   ·simp [h,e]
   ·simp [h,e]
  ·rw [if_neg h]
   simp [h]
theorem rowsAt_idx (E:List Ent) (b:ByteArray):rowsAt (idxOf E) (.s b)=(entAt E b).map Ent.d:=by
 unfold idxOf
 rw [foldl_rows]
 rfl
def foundN (E:List Ent) (s:ByteArray):Nat → List ByteArray
 | 0=>[]
 | n+1=>foundN E s n++((entAt E (s.extract 0 n)).filter fun y=>matchM y.pat s).map Ent.mod
theorem foundN_mem (E:List Ent) (s m:ByteArray):∀ n,m ∈ foundN E s n ↔ ∃ k y,k < n∧y ∈ E∧globM y.pat=0∧prefB y.pat=s.extract 0 k∧matchM y.pat s=true∧y.mod=m
 | 0=>by simp [foundN]
 | n+1=>by
  unfold foundN
  rw [List.mem_append,foundN_mem E s m n,List.mem_map]
  constructor
  ·rintro (⟨k,y,h1,h2⟩|⟨y,h1,h2⟩)
   ·exact ⟨k,y,by omega,h2⟩
   ·rw [List.mem_filter] at h1
    obtain ⟨h3,h4⟩:=h1
    unfold entAt at h3
    rw [List.mem_filter,Bool.and_eq_true,decide_eq_true_eq,decide_eq_true_eq] at h3
    exact ⟨n,y,by omega,h3.1,h3.2.1,h3.2.2,h4,h2⟩
  ·rintro ⟨k,y,h1,h2,h3,h4,h5,h6⟩
   by_cases e:k=n
   ·subst e
    refine .inr ⟨y,?_,h6⟩
    rw [List.mem_filter]
    refine ⟨?_,h5⟩
    unfold entAt
    rw [List.mem_filter,Bool.and_eq_true,decide_eq_true_eq,decide_eq_true_eq]
    exact ⟨h2,h3,h4⟩
   ·exact .inl ⟨k,y,by omega,h2,h3,h4,h5,h6⟩
theorem extract_pref {s:ByteArray} {l:List UInt8} (h:l <+: s.data.toList):s.extract 0 l.length=⟨l.toArray⟩:=by
 have e:(s.extract 0 l.length).data.toList=l:=by
  rw [ByteArray.data_extract,Array.toList_extract,List.extract_eq_take_drop]
  simp only [List.drop_zero,Nat.sub_zero]
  exact (List.prefix_iff_eq_take.1 h).symm
 apply ByteArray.ext
 apply Array.ext'
 rw [e]
theorem found_iff (E:List Ent) (s m:ByteArray):m ∈ foundN E s (s.size+1) ↔ ∃ y ∈ E,matchM y.pat s=true∧y.mod=m:=by
 rw [foundN_mem]
 constructor
 ·rintro ⟨k,y,h1,h2,h3,h4,h5,h6⟩
  exact ⟨y,h2,h5,h6⟩
 ·rintro ⟨y,h1,h2,h3⟩
  obtain ⟨h4,h5⟩:=match_pref h2
  have hl:(prefM y.pat).length≤s.size:=by
   have:=h5.length_le
   rw [Array.length_toList] at this
   exact this
  exact ⟨(prefM y.pat).length,y,by omega,h1,h4,(extract_pref h5).symm,h2,h3⟩
end Go.Proofs.YthhfpcbpiphfiaaGreatDoor
namespace Go.Proofs.YthhfpcbpiphfiaaGreatDoor
attribute [local irreducible] PL QL PWPr PCalls Weak RetK Kontr PA
open Go.RowKit
open IntWalk renaming iteOmega → iO, toNatUp → tN
set_option linter.unusedVariables false
set_option linter.unusedSimpArgs false
set_option maxRecDepth 20000
def litD (e:El):List D:=[.v (.int .u8 (e.lit:Int))]
theorem nums_lit (l:List El):nums (l.map litD)=some (l.map fun e=>(e.lit:Int)):=by
 have:l.map litD=(l.map fun e=>(e.lit:Int)).map fun n=>[D.v (.int .u8 n)]:=by rw [List.map_map];rfl
 rw [this,nums_map]
def begB (l:List El):ByteArray:=⟨(beginL l).toArray⟩
theorem begin_take:∀ (l:List El) (k:Nat),k≤l.length → (∀ e ∈ l.take k,e.lit≠0) → (∀ h:k < l.length,l[k].lit=0) → beginL l=(l.take k).map fun e=>UInt8.ofNat e.lit
 | [],k,hk,_,_=>by simp [beginL]
 | e :: l,0,_,_,h=>by
  have:=h (by simp)
  simp only [List.getElem_cons_zero] at this
  simp [beginL,this]
 | e :: l,k+1,hk,h1,h2=>by
  have he:e.lit≠0:=h1 e (by simp)
  unfold beginL
  rw [if_neg he,List.take_succ_cons,List.map_cons,begin_take l k (by simpa using hk) (fun x hx=>h1 x (by simp [hx])) (fun h=>by have:=h2 (by simpa using h);simpa using this)]
theorem begin_str {l:List El} {k:Nat} (hk:k≤l.length) (h:∀ e ∈ l.take k,e.lit≠0) (he:k < l.length → (l.getD k default).lit=0):strOfNums ((l.take k).map fun e=>(e.lit:Int))=begB l:=by
 unfold begB strOfNums
 rw [begin_take l k hk h (fun h=>by have:=he h;rwa [getD_lt l h] at this),List.map_map]
 congr 2
theorem takeLit_snoc {l:List El} {k:Nat} (hk:k < l.length):(l.take (k+1)).map litD=(l.take k).map litD++[litD (l.getD k default)]:=by
 rw [List.take_succ_eq_append_getElem hk,List.map_append,getD_lt l hk];rfl
set_option maxRecDepth 20000 in
set_option maxHeartbeats 4000000 in
theorem gbegin_pure (l:List El) (hl:OkEl l) (hll:l.length≤1000000) :
  PCalls Tryz.prog 53 [.c (.sl 129 (l.map El.d))] [] fun r os=>r = .c (.v (.string (begB l)))∧os=[]:=by
 refine pcalls_of Tryz.func53 rfl (by simp [Tryz.ntmps53]) ?_
 rw [Tryz.ntmps53,Tryz.results53]
 push_cast [-List.reduceReplicate,iO,tN]
 have cB:CutB 6 [6,7,8]:=trivial
 repeat' (first|((first|refine pC ?_|refine pQC ?_|refine pU ?_);push_cast [-List.reduceReplicate,iO,tN])|(refine pif (fun h=>?_) (fun h=>?_)<;>first|exact pN h|push_cast [-List.reduceReplicate,iO,tN]))
 refine pwp_weak (weak_adopt 3 5 1 (by omega) (by push_cast [-List.reduceReplicate,iO,tN])) ?_
 push_cast [-List.reduceReplicate,iO,tN]
 (apply pwp_loop3 (α:=Nat) 6 [6,7,8] (fun k=>[(8,.c (.v (.int .i64 k))),(3,.c (.own 0 (k)))]) (fun k=>[(0,.arr 5 1 ((l.take k).map litD))]) (fun k=>k≤l.length∧(∀ e ∈ l.take k,e.lit≠0)) (fun k=>l.length - k) (0);(focus ((try push_cast [-List.reduceReplicate,iO,tN]);rfl));(focus exact ⟨by omega,by simp⟩);(focus ((refine weak_fg ?_;try push_cast [-List.reduceReplicate,iO,tN]))))
 rintro k ⟨hk,hpre⟩
 have htk:((l.take k).map litD).take k=(l.take k).map litD:=List.take_of_length_le (by simp;omega)
 push_cast [-List.reduceReplicate,iO,tN,htk]
 by_cases hlt:k < l.length
 ·have h127:=okEl_get hl hlt
  have hts:=takeLit_snoc hlt
  by_cases h0:(l.getD k default).lit=0
  ·have hstr:=begin_str hk hpre (fun _=>h0)
   have hn:=nums_lit (l.take k)
   refine pwp_weak (weak_frz 0 (Nat.zero_le _)) ?_
   push_cast [-List.reduceReplicate,iO,tN,htk]
   repeat' (first|((first|refine pC ?_|refine pQC ?_|refine pU ?_);push_cast [-List.reduceReplicate,iO,tN,El.d,h0,h127,hn,hstr])|(refine pif (fun h=>?_) (fun h=>?_)<;>first|exact pN h|push_cast [-List.reduceReplicate,iO,tN,El.d,h0,h127,hn,hstr]))
   (refine retK_of [] ?_;push_cast [-List.reduceReplicate,iO,tN])
  ·have hpre2:∀ e ∈ l.take (k+1),e.lit≠0:=fun e he=>by
    rw [List.take_succ_eq_append_getElem hlt,List.mem_append] at he
    rcases he with he|he
    ·exact hpre e he
    ·rw [List.mem_singleton] at he
     subst he
     rwa [getD_lt l hlt] at h0
   have h0':¬ ((l.getD k default).lit:Int)=0:=by omega
   repeat' (first|((first|refine pC ?_|refine pQC ?_|refine pU ?_);push_cast [-List.reduceReplicate,iO,tN,El.d,h0',h127,htk])|(refine pif (fun h=>?_) (fun h=>?_)<;>first|exact pN h|push_cast [-List.reduceReplicate,iO,tN,El.d,h0',h127,htk]))
   exact ⟨k+1,⟨by omega,hpre2⟩,by (refine weak_fg ?_;push_cast [-List.reduceReplicate,iO,tN,hts,litD]),by omega⟩
 ·have hstr:=begin_str hk hpre (fun h=>absurd h hlt)
  have hn:=nums_lit (l.take k)
  refine pwp_weak (weak_frz 0 (Nat.zero_le _)) ?_
  push_cast [-List.reduceReplicate,iO,tN,htk]
  repeat' (first|((first|refine pC ?_|refine pQC ?_|refine pU ?_);push_cast [-List.reduceReplicate,iO,tN,hn,hstr])|(refine pif (fun h=>?_) (fun h=>?_)<;>first|exact pN h|push_cast [-List.reduceReplicate,iO,tN,hn,hstr]))
  (refine retK_of [] ?_;push_cast [-List.reduceReplicate,iO,tN])
theorem altGo_ne {p:ByteArray} {i:Nat} {l:List (List El)} {x:List El}:altGo p i l x≠some []:=by
 fun_induction altGo p i l x<;>first
  | (intro h;cases h;done)
  | (intro h;injection h with h;simp at h;done)
  | (rename_i ih;exact ih)
theorem altsM_ne (p:ByteArray):¬ altsM p=some []:=altGo_ne
theorem cpre_cut:∀ (a b:List UInt8) (n:Nat),n≤a.length → n≤b.length → a.take n=b.take n → (∀ (h1:n < a.length) (h2:n < b.length),a[n]≠b[n]) → cpre a b=a.take n
 | [],[],n,_,_,_,_=>by simp [cpre]
 | [],_ :: _,n,h,_,_,_=>by simp [cpre]
 | _ :: _,[],n,_,h,_,_=>by
  have h0:n=0:=by simpa using h
  subst h0
  simp [cpre]
 | x :: a,y :: b,0,_,_,_,h=>by
  have:=h (by simp) (by simp)
  simp only [List.getElem_cons_zero] at this
  simp [cpre,this]
 | x :: a,y :: b,n+1,h1,h2,h3,h4=>by
  simp only [List.take_succ_cons,List.cons.injEq] at h3
  obtain ⟨rfl,h3⟩:=h3
  unfold cpre
  rw [if_pos rfl,List.take_succ_cons,cpre_cut a b n (by simpa using h1) (by simpa using h2) h3 (fun h5 h6=>by have:=h4 (by simpa using h5) (by simpa using h6);simpa using this)]
def cpreB (q s:ByteArray):ByteArray:=⟨(cpre q.data.toList s.data.toList).toArray⟩
theorem cpreB_cut {q s:ByteArray} {n:Nat} (h1:n≤q.size) (h2:n≤s.size) (h3:q.data.toList.take n=s.data.toList.take n) (h4:n < q.size → n < s.size → s.data.toList.getD n 0≠q.data.toList.getD n 0):q.extract 0 n=cpreB q s:=by
 have hq:q.data.toList.length=q.size:=rfl
 have hs:s.data.toList.length=s.size:=rfl
 unfold cpreB
 rw [cpre_cut q.data.toList s.data.toList n (by omega) (by omega) h3 (fun h5 h6=>by
  have:=h4 (by omega) (by omega)
  rw [List.getD_eq_getElem?_getD,List.getD_eq_getElem?_getD,List.getElem?_eq_getElem h5,List.getElem?_eq_getElem h6] at this
  exact fun e=>this e.symm)]
 apply ByteArray.ext
 apply Array.ext'
 rw [ByteArray.data_extract,Array.toList_extract,List.extract_eq_take_drop]
 simp
def preB (x:List El) (r:List (List El)) (k:Nat):ByteArray:=⟨((r.take k).foldl (fun a y=>cpre a (beginL y)) (beginL x)).toArray⟩
theorem preB_next {x:List El} {r:List (List El)} {k:Nat} (hk:k < r.length):preB x r (k+1)=cpreB (preB x r k) (begB (r.getD k default)):=by
 unfold preB cpreB begB
 rw [List.take_succ_eq_append_getElem hk,List.foldl_append,getD_lt r hk]
 rfl
theorem cpre_len (a b:List UInt8):(cpre a b).length≤a.length:=(cpre_left a b).length_le
theorem begin_len:∀ l:List El,(beginL l).length≤l.length
 | []=>by simp [beginL]
 | e :: l=>by
  unfold beginL
  split
  ·simp
  ·have:=begin_len l
   simp only [List.length_cons]
   omega
theorem preB_size (x:List El) (r:List (List El)) (k:Nat):(preB x r k).size≤x.length:=by
 have h:∀ (r:List (List El)) (a:List UInt8),(r.foldl (fun a y=>cpre a (beginL y)) a).length≤a.length:=fun r=>by
  induction r with
  | nil=>intro a;exact Nat.le_refl _
  | cons y r ih=>intro a;rw [List.foldl_cons];exact Nat.le_trans (ih _) (cpre_len _ _)
 have h2:=h (r.take k) (beginL x)
 have h3:=begin_len x
 have h4:(preB x r k).size=((r.take k).foldl (fun a y=>cpre a (beginL y)) (beginL x)).length:=by unfold preB ByteArray.size;simp
 omega
theorem begB_size (l:List El):(begB l).size≤l.length:=by
 have:(begB l).size=(beginL l).length:=by unfold begB ByteArray.size;simp
 have:=begin_len l
 omega
theorem take_same {a b:List UInt8} {n:Nat} (h1:n < a.length) (h2:n < b.length) (h:a.take n=b.take n) (he:b.getD n 0=a.getD n 0):a.take (n+1)=b.take (n+1):=by
 rw [List.getD_eq_getElem?_getD,List.getD_eq_getElem?_getD,List.getElem?_eq_getElem h1,List.getElem?_eq_getElem h2] at he
 rw [List.take_succ_eq_append_getElem h1,List.take_succ_eq_append_getElem h2,h]
 simp only [Option.getD_some] at he
 rw [he]
set_option maxRecDepth 20000 in
set_option maxHeartbeats 4000000 in
theorem prefix_pure (p:ByteArray) (hf:p.size≤9223372036854775807) :
  PCalls Tryz.prog 33 [.c (.v (.string p))] [] fun r os=>r = .two (.c (.v (.string (if globM p=0 then prefB p else ⟨#[]⟩)))) (.c (.v (.int .i64 (globM p))))∧os=[]:=by
 have hp:=parse_pure p hf
 unfold parseR at hp
 refine pcalls_of Tryz.func33 rfl (by simp [Tryz.ntmps33]) ?_
 rw [Tryz.ntmps33,Tryz.results33]
 push_cast [-List.reduceReplicate,iO,tN]
 have cB:CutB 12 [24,25,26]:=trivial
 by_cases h0:globM p=0
 case neg =>
  rw [if_neg h0] at hp
  repeat' (first|((refine plc [] (hp) ?_ ?_;push_cast [-List.reduceReplicate,iO,tN,h0];rintro r os ⟨rfl,rfl⟩;push_cast [-List.reduceReplicate,iO,tN,h0]))|((first|refine pC ?_|refine pQC ?_|refine pU ?_);push_cast [-List.reduceReplicate,iO,tN,h0])|(refine pif (fun h=>?_) (fun h=>?_)<;>first|exact pN h|push_cast [-List.reduceReplicate,iO,tN,h0]))
  (refine retK_of [] ?_;push_cast [-List.reduceReplicate,iO,tN,h0])
 rw [if_pos h0,h0] at hp
 obtain ⟨L,hL⟩:∃ L,altsM p=some L:=by
  unfold globM at h0
  split at h0
  ·cases h0
  ·split at h0
   ·cases h0
   ·cases e:altsM p with
    | none=>rw [e] at h0;simp at h0
    | some L=>exact ⟨L,rfl⟩
 rw [hL] at hp
 simp only [Option.getD_some] at hp
 have hok:=altsM_ok hL
 have hps:p.size≤256:=by
  unfold globM at h0
  split at h0
  ·cases h0
  ·omega
 have hlen:L.length≤p.size+1:=altGo_len (Nat.zero_le _) (Nat.zero_le _) hL
 cases L with
 | nil=>exact absurd hL (altsM_ne p)
 | cons x r =>
 have hlen2:r.length≤256:=by simp only [List.length_cons] at hlen;omega
 have hx:=hok x (by simp)
 have hbx:=gbegin_pure x hx.1 (by omega)
 have hRx:prefB p=preB x r r.length:=by
  unfold prefB prefM preB
  rw [hL,List.take_length]
  rfl
 repeat' (first|((refine plc [] (hp) ?_ ?_;push_cast [-List.reduceReplicate,iO,tN,altsD];rintro r os ⟨rfl,rfl⟩;push_cast [-List.reduceReplicate,iO,tN,altsD]))|((refine plc [] (hbx) ?_ ?_;push_cast [-List.reduceReplicate,iO,tN,altsD];rintro r os ⟨rfl,rfl⟩;push_cast [-List.reduceReplicate,iO,tN,altsD]))|((first|refine pC ?_|refine pQC ?_|refine pU ?_);push_cast [-List.reduceReplicate,iO,tN,altsD])|(refine pif (fun h=>?_) (fun h=>?_)<;>first|exact pN h|push_cast [-List.reduceReplicate,iO,tN,altsD]))
 have hpz:preB x r 0=begB x:=rfl
 (apply pwp_loop3 (α:=Nat) 12 [24,25,26] (fun k=>[(26,.c (.v (.int .i64 k))),(6,.c (.v (.string (preB x r k))))]) (fun k=>[]) (fun k=>k≤r.length) (fun k=>r.length - k) (0);(focus ((try push_cast [-List.reduceReplicate,iO,tN]);rfl));(focus exact (by omega));(focus ((refine weak_fg ?_;try push_cast [-List.reduceReplicate,iO,tN]);(try (exact hpz.symm)))))
 intro k hk
 have hsz:=preB_size x r k
 push_cast [-List.reduceReplicate,iO,tN]
 by_cases hlt:k < r.length
 ·have hy:=hok (r.getD k default) (by rw [getD_lt r hlt];simp)
  have hby:=gbegin_pure (r.getD k default) hy.1 (by omega)
  have hys:=begB_size (r.getD k default)
  have hnx:=preB_next (x:=x) hlt
  obtain ⟨q,hq⟩:∃ q,preB x r k=q:=⟨_,rfl⟩
  obtain ⟨s,hs⟩:∃ s,begB (r.getD k default)=s:=⟨_,rfl⟩
  rw [hq] at hsz hnx ⊢
  rw [hs] at hby hys hnx
  repeat' (first |  ((refine plc [] (hby) ?_ ?_;push_cast [-List.reduceReplicate,iO,tN];rintro r os ⟨rfl,rfl⟩;push_cast [-List.reduceReplicate,iO,tN]))  | ((first|refine pC ?_|refine pQC ?_|refine pU ?_);push_cast [-List.reduceReplicate,iO,tN])|(refine pif (fun h=>?_) (fun h=>?_)<;>first|exact pN h|push_cast [-List.reduceReplicate,iO,tN]))
  (apply pwp_loop3 (α:=Nat) 12 [24,25,26] (fun n=>[(10,.c (.v (.int .i64 n)))]) (fun n=>[]) (fun n=>n≤q.size∧n≤s.size∧q.data.toList.take n=s.data.toList.take n) (fun n=>q.size - n) (0);(focus ((try push_cast [-List.reduceReplicate,iO,tN]);rfl));(focus exact ⟨by omega,by omega,rfl⟩);(focus ((refine weak_fg ?_;try push_cast [-List.reduceReplicate,iO,tN]))))
  rintro n ⟨h1,h2,h3⟩
  push_cast [-List.reduceReplicate,iO,tN]
  by_cases hl2:n < q.size∧n < s.size
  ·have hmin:(n:Int) < (if (q.size:Int) < (s.size:Int) then (q.size:Int) else (s.size:Int)):=by split<;>omega
   by_cases hb:s.data.toList.getD n 0=q.data.toList.getD n 0
   ·have h3':=take_same (show n < q.data.toList.length from hl2.1) (show n < s.data.toList.length from hl2.2) h3 hb
    repeat' (first|(refine ql_min rfl rfl rfl rfl (by push_cast [-List.reduceReplicate,iO,tN,hmin,hb]) ?_;refine ql_of_qops ?_;push_cast [-List.reduceReplicate,iO,tN,hmin,hb])|((first|refine pC ?_|refine pQC ?_|refine pU ?_);push_cast [-List.reduceReplicate,iO,tN,hmin,hb])|(refine pif (fun h=>?_) (fun h=>?_)<;>first|exact pN h|push_cast [-List.reduceReplicate,iO,tN,hmin,hb]))
    exact ⟨n+1,⟨by omega,by omega,h3'⟩,by (refine weak_fg ?_;push_cast [-List.reduceReplicate,iO,tN]),by omega⟩
   ·have hcut:=cpreB_cut h1 h2 h3 (fun _ _=>hb)
    have hb':¬ ((s.data.toList.getD n 0).toNat:Int)=((q.data.toList.getD n 0).toNat:Int):=fun e=>hb (UInt8.toNat_inj.1 (by omega))
    repeat' (first|(refine ql_min rfl rfl rfl rfl (by push_cast [-List.reduceReplicate,iO,tN,hmin,hb']) ?_;refine ql_of_qops ?_;push_cast [-List.reduceReplicate,iO,tN,hmin,hb'])|((first|refine pC ?_|refine pQC ?_|refine pU ?_);push_cast [-List.reduceReplicate,iO,tN,hmin,hb'])|(refine pif (fun h=>?_) (fun h=>?_)<;>first|exact pN h|push_cast [-List.reduceReplicate,iO,tN,hmin,hb']))
    exact ⟨k+1,by omega,by (refine weak_fg ?_;push_cast [-List.reduceReplicate,iO,tN,hnx,hcut]),by omega⟩
  ·have hmin:¬ (n:Int) < (if (q.size:Int) < (s.size:Int) then (q.size:Int) else (s.size:Int)):=by split<;>omega
   have hcut:=cpreB_cut h1 h2 h3 (fun h5 h6=>absurd ⟨h5,h6⟩ hl2)
   repeat' (first|(refine ql_min rfl rfl rfl rfl (by push_cast [-List.reduceReplicate,iO,tN,hmin]) ?_;refine ql_of_qops ?_;push_cast [-List.reduceReplicate,iO,tN,hmin])|((first|refine pC ?_|refine pQC ?_|refine pU ?_);push_cast [-List.reduceReplicate,iO,tN,hmin])|(refine pif (fun h=>?_) (fun h=>?_)<;>first|exact pN h|push_cast [-List.reduceReplicate,iO,tN,hmin]))
   exact ⟨k+1,by omega,by (refine weak_fg ?_;push_cast [-List.reduceReplicate,iO,tN,hnx,hcut]),by omega⟩
 ·have hk2:k=r.length:=by omega
  subst hk2
  repeat' (first|((first|refine pC ?_|refine pQC ?_|refine pU ?_);push_cast [-List.reduceReplicate,iO,tN])|(refine pif (fun h=>?_) (fun h=>?_)<;>first|exact pN h|push_cast [-List.reduceReplicate,iO,tN]))
  (refine retK_of [] ?_;push_cast [-List.reduceReplicate,iO,tN,hRx,h0])
set_option maxRecDepth 20000
def asc (l:List ByteArray):Prop:=l.Pairwise fun a b=>bless a b=true
theorem asc_ext:∀ {l m:List ByteArray},asc l → asc m → (∀ x,x ∈ l ↔ x ∈ m) → l=m
 | [],[],_,_,_=>rfl
 | [],b :: m,_,_,h=>by have:=(h b).2 (by simp);simp at this
 | a :: l,[],_,_,h=>by have:=(h a).1 (by simp);simp at this
 | a :: l,b :: m,hl,hm,h=>by
  obtain ⟨l1,l2⟩:=List.pairwise_cons.1 hl
  obtain ⟨m1,m2⟩:=List.pairwise_cons.1 hm
  have hab:a=b:=by
   rcases List.mem_cons.1 ((h a).1 (by simp)) with e|e
   ·exact e
   ·rcases List.mem_cons.1 ((h b).2 (by simp)) with e'|e'
    ·exact e'.symm
    ·have h1:=m1 a e
     have h2:=l1 b e'
     rw [bless_asymm h1] at h2
     cases h2
  subst hab
  congr 1
  refine asc_ext l2 m2 fun x=>⟨fun hx=>?_,fun hx=>?_⟩
  ·rcases List.mem_cons.1 ((h x).1 (by simp [hx])) with e|e
   ·subst e;have:=l1 _ hx;rw [bless_irrefl] at this;cases this
   ·exact e
  ·rcases List.mem_cons.1 ((h x).2 (by simp [hx])) with e|e
   ·subst e;have:=m1 _ hx;rw [bless_irrefl] at this;cases this
   ·exact e
def unB (x:List UInt8):ByteArray:=⟨x.toArray⟩
theorem unB_list (b:ByteArray):unB b.data.toList=b:=by unfold unB;rfl
theorem list_unB (x:List UInt8):(unB x).data.toList=x:=by unfold unB;rfl
set_option maxRecDepth 20000
def Cfg.e (c:Cfg):List E:=c.d.map D.e
attribute [push_cast] Cfg.e
set_option maxRecDepth 20000
theorem flat_len {α β:Type} (f:α → List β) (k:Nat):∀ l:List α,(∀ x ∈ l,(f x).length≤k) → (l.flatMap f).length≤l.length * k
 | [],_=>by simp
 | a :: l,h=>by
  have ih:=flat_len f k l (fun x hx=>h x (by simp [hx]))
  have:=h a (by simp)
  simp only [List.flatMap_cons,List.length_append,List.length_cons,Nat.add_mul]
  omega
set_option maxRecDepth 20000
set_option maxRecDepth 20000
set_option maxRecDepth 20000
theorem texts_rd {w:World} {I:Nat → Prop}:∀ (l:List ByteArray) (vs:List Value),All2 (RD w I) (l.map strD).flatten vs → vs=l.map Value.string
 | [],vs,h=>by simpa [All2.nil_l] using h
 | a :: l,vs,h=>by
  simp only [List.map_cons,List.flatten_cons,strD,List.cons_append,List.nil_append] at h
  obtain ⟨y,vs',rfl,h5,h6⟩:=All2.cons_l.1 h
  rw [RD] at h5
  rw [h5.1,texts_rd l vs' h6];rfl
theorem rd_texts {w:World} {I:Nat → Prop}:∀ (l:List ByteArray),All2 (RD w I) (l.map strD).flatten (l.map Value.string)
 | []=>trivial
 | a :: l=>⟨by rw [RD];exact ⟨rfl,rfl⟩,rd_texts l⟩
open Go.Sort Go.Lib in
theorem put_texts {Γ:G} {w:World} {l:List ByteArray} {rest:List Ob} (hm:MemOk Γ (.arr 9 1 (l.map strD) :: rest) w) (hc:0 < Γ.cap 0) (hl:0 < l.length) :
  Γ.β 0 < w.heap.size∧Holds encStr w (Γ.β 0) 0 (l.map (·.data.toList)).toArray∧l.length≤Γ.cap 0∧∀ (q:Nat) (gr:Array Obj) (ys:List (List UInt8)),ys.length=l.length →
   MemOk Γ (.arr 9 1 ((ys.map unB).map strD) :: rest) (grow (putRow encStr (Sort.ahead w q) (Γ.β 0) 0 ys.toArray) gr)∧Grow (rest.length+1) Γ w Γ (grow (putRow encStr (Sort.ahead w q) (Γ.β 0) 0 ys.toArray) gr):=by
 have hk:0 < Γ.n:=by rw [hm.n];simp
 obtain ⟨h1,h2,h3,h4⟩:=hm.ob 0 _ rfl
 obtain ⟨cur,hb,hs,hle,hmx,hrd⟩:=h4 hc
 have hcur:cur.toList.take (l.length * 1)=(l.map (·.data.toList)).map Go.Proofs.encStr:=by
  rw [map_encStr]
  have:=texts_rd _ _ hrd
  simpa using this
 have hle':l.length≤Γ.cap 0:=by simpa using hle
 have hown:w.ownsRow 0 9 1 (.slice (some ⟨Γ.β 0,0,none⟩) l.length (Γ.cap 0)) l.length ((l.map (·.data.toList)).map encStr) :=
  ⟨by simp,.inr ⟨Γ.β 0,Γ.cap 0,cur,rfl,Nat.zero_le _,hb,hle',hmx,hs,hcur⟩⟩
 obtain ⟨g,cap,e,_,i2,_,_,_,i6⟩:=holds_of_ownsRow hown (by simp)
 injection e with e1 e2 e3
 injection e1 with e1
 injection e1 with e1
 subst e1
 refine ⟨i2,i6,hle',fun q gr ys hy=>?_⟩
 have ho:=ownsRow_putRow (q:=q) (k:=l.length) hown hy (Nat.le_refl _)
 rw [List.take_of_length_le (by omega)] at ho
 have hsz:(putRow encStr (Sort.ahead w q) (Γ.β 0) 0 ys.toArray).heap.size=w.heap.size:=by simp [Sort.ahead]
 have hog:(grow (putRow encStr (Sort.ahead w q) (Γ.β 0) 0 ys.toArray) gr).ownsRow 0 9 1 (.slice (some ⟨Γ.β 0,0,none⟩) l.length (Γ.cap 0)) l.length (ys.map encStr):=by
  refine ⟨ho.1,?_⟩
  rcases ho.2 with ⟨e,_⟩|⟨g',cap',cur',e,k1,k2,k3,k4,k5,k6⟩
  ·cases e
  ·refine .inr ⟨g',cap',cur',e,k1,?_,k3,k4,k5,k6⟩
   injection e with e1
   injection e1 with e1
   injection e1 with e1
   subst e1
   simp only [grow]
   rw [Array.getElem?_append_left (by rw [hsz];exact i2)]
   exact k2
 obtain ⟨b,c,e,_,_,_,_,_,hro⟩:=arr_of_own (k:=0) (Γ:=Γ) (rows:=(ys.map unB).map strD) hog hl (by omega) (fun r hr=>by obtain ⟨z,_,rfl⟩:=List.mem_map.1 hr;rfl) (by simp [hy])
 injection e with e1 e2 e3
 injection e1 with e1
 injection e1 with e1
 subst e1 e3
 have hE:Ext (· = Γ.β 0) w (grow (putRow encStr (Sort.ahead w q) (Γ.β 0) 0 ys.toArray) gr):=by
  refine ⟨rfl,rfl,rfl,by simp [grow,hsz],fun k hk' hne=>?_⟩
  simp only [grow]
  rw [Array.getElem?_append_left (by rw [hsz];exact hk')]
  simp only [putRow,mapBlock,Sort.ahead,Array.getElem?_modify]
  rw [if_neg (fun h=>hne h.symm)]
 have hro':=hro Γ rfl rfl (by
  have:ys.map encStr=(ys.map unB).map Value.string:=by rw [List.map_map];exact List.map_congr_left fun x _=>by simp [encStr,unB]
  rw [this]
  exact rd_texts _)
 exact ⟨(hm.set_ hk hc hE _ hro').1,grow_set hk hc hE⟩
open Go.Sort Go.Lib in
theorem sort_pure (l:List ByteArray) (rest:List Ob) (hl:l.length≤1000000) :
  PCalls Tryz.prog 35 [.c (.own 0 l.length)] (.arr 9 1 (l.map strD) :: rest) fun r os=>r = .undef∧os = .arr 9 1 (((l.map (·.data.toList)).mergeSort fun x y=>decide (x≤y)).map unB |>.map strD) :: rest:=by
 unfold PCalls
 intro Γ w xs hm hx
 obtain ⟨y,m',rfl,h1,h2⟩:=All2.cons_l.1 hx
 rw [All2.nil_l] at h2
 subst h2
 rcases Nat.eq_zero_or_pos l.length with h0|h0
 ·have:l=[]:=List.eq_nil_of_length_eq_zero h0
  subst this
  have hy:∃ A c,y = .slice A 0 c:=by
   rcases h1.2 with ⟨_,⟨A,e⟩,_⟩|⟨_,e,_⟩
   ·exact ⟨A,0,e⟩
   ·exact ⟨_,_,e⟩
  obtain ⟨A,c,rfl⟩:=hy
  refine (Any.slices_Sort_string_none lays190 A c w).mono ?_
  rintro e w' ⟨rfl,rfl⟩
  exact ⟨_,_,Γ,_,rfl,⟨rfl,rfl⟩,rfl,by simp,by simpa using hm,Grow.refl _ _ _⟩
 ·rcases h1.2 with ⟨_,_,h3⟩|⟨hc,rfl,hle⟩
  ·omega
  ·obtain ⟨i1,i2,i3,i4⟩:=put_texts hm hc h0
   have:=Any.slices_Sort_string lays190 (Γ.β 0) 0 (Γ.cap 0) (l.map (·.data.toList)) w i2 i1 (by simp;omega)
   rw [List.length_map] at this
   refine this.mono ?_
   rintro e w' ⟨rfl,n,gr,rfl⟩
   obtain ⟨j1,j2⟩:=i4 n gr ((l.map (·.data.toList)).mergeSort fun x y=>decide (x≤y)) (by rw [(List.mergeSort_perm _ _).length_eq,List.length_map])
   exact ⟨_,_,Γ,_,rfl,⟨rfl,rfl⟩,rfl,by simp,j1,j2⟩
open Go.Sort Go.Lib in
theorem compact_pure (l:List ByteArray) (rest:List Ob) (hl:l.length≤1000000) :
  PCalls Tryz.prog 36 [.c (.own 0 l.length)] (.arr 9 1 (l.map strD) :: rest) fun r os=>∃ m:List ByteArray,r = .c (.own 0 (Lib.compact (l.map (·.data.toList))).length)∧os = .arr 9 1 (((Lib.compact (l.map (·.data.toList))).map unB++m).map strD) :: rest:=by
 unfold PCalls
 intro Γ w xs hm hx
 obtain ⟨y,m',rfl,h1,h2⟩:=All2.cons_l.1 hx
 rw [All2.nil_l] at h2
 subst h2
 have hn0:0 < Γ.n:=by rw [hm.n];simp
 rcases Nat.eq_zero_or_pos l.length with h0|h0
 ·have:l=[]:=List.eq_nil_of_length_eq_zero h0
  subst this
  have hy:∃ A c,y = .slice A 0 c:=by
   rcases h1.2 with ⟨_,⟨A,e⟩,_⟩|⟨_,e,_⟩
   ·exact ⟨A,0,e⟩
   ·exact ⟨_,_,e⟩
  obtain ⟨A,c,rfl⟩:=hy
  refine (slices_Compact_string_empty A c w).mono ?_
  rintro e w' ⟨rfl,rfl⟩
  have e0:Lib.compact ([]:List (List UInt8))=[]:=rfl
  exact ⟨_,_,Γ,_,rfl,⟨[],rfl,rfl⟩,by simpa [e0] using h1,by simp,by simpa [e0] using hm,Grow.refl _ _ _⟩
 ·rcases h1.2 with ⟨_,_,h3⟩|⟨hc,rfl,hle⟩
  ·omega
  ·obtain ⟨i1,i2,i3,i4⟩:=put_texts hm hc h0
   have:=slices_Compact_string (Γ.β 0) 0 (Γ.cap 0) (l.map (·.data.toList)) w i2 (by simp;omega) (by simpa using hle)
   rw [List.length_map] at this
   refine this.mono ?_
   rintro e w' ⟨rfl,n,rfl⟩
   have hcl:(Lib.compact (l.map (·.data.toList))).length≤l.length:=by have:=Lib.compact_length_le (l.map (·.data.toList));simpa using this
   obtain ⟨j1,j2⟩:=i4 n #[] (Lib.compact (l.map (·.data.toList))++List.replicate (l.length - (Lib.compact (l.map (·.data.toList))).length) []) (by simp;omega)
   have hg:∀ w:World,grow w #[]=w:=fun w=>by simp [grow]
   rw [hg] at j1 j2
   refine ⟨_,_,Γ,_,rfl,⟨(List.replicate (l.length - (Lib.compact (l.map (·.data.toList))).length) []).map unB,rfl,rfl⟩,⟨hn0,.inr ⟨hc,rfl,by omega⟩⟩,by simp,?_,j2⟩
   rw [← List.map_append]
   exact j1
theorem compactUpTo_spec (zs:List (List UInt8)) (h:zs.Pairwise fun x y=>x≤y):∀ m,m≤zs.length → (Lib.compactUpTo zs.toArray m).Pairwise (· < ·)∧∀ x,x ∈ Lib.compactUpTo zs.toArray m ↔ x ∈ zs.take m
 | 0,_=>by simp [Lib.compactUpTo]
 | m+1,hm=>by
  obtain ⟨i1,i2⟩:=compactUpTo_spec zs h m (by omega)
  have hg:zs.toArray[m]! = zs[m]:=by simp [getElem!_pos,show m < zs.length by omega]
  have hp:=List.pairwise_iff_getElem.1 h
  rw [Lib.compactUpTo_succ,List.take_succ_eq_append_getElem (by omega),hg]
  cases hk:Lib.keeps zs.toArray m with
  | true =>
   rw [if_pos rfl]
   refine ⟨List.pairwise_append.2 ⟨i1,by simp,fun a ha b hb=>?_⟩,fun x=>by rw [List.mem_append,List.mem_append,i2]⟩
   simp only [List.mem_singleton] at hb
   subst hb
   obtain ⟨i,hi,rfl⟩:=List.getElem_of_mem ((i2 a).1 ha)
   rw [List.length_take] at hi
   rw [List.getElem_take]
   have hle:=hp i m (by omega) (by omega) (by omega)
   rcases Decidable.em (zs[i] < zs[m]) with h5|h5
   ·exact h5
   ·exfalso
    have he:=List.le_antisymm hle (List.not_lt.1 h5)
    simp only [Lib.keeps,decide_eq_true_eq] at hk
    rcases hk with hk|hk
    ·omega
    ·rw [hg,show zs.toArray[m - 1]! = zs[m - 1] by simp [getElem!_pos,show m - 1 < zs.length by omega]] at hk
     have h6:=hp (m - 1) m (by omega) (by omega) (by omega)
     rcases Nat.lt_or_ge i (m - 1) with h7|h7
     ·have h8:=hp i (m - 1) (by omega) (by omega) h7
      rw [he] at h8
      exact hk (List.le_antisymm h8 h6)
     ·have:i=m - 1:=by omega
      subst this
      exact hk he.symm
  | false =>
   simp only [Bool.false_eq_true,if_false,List.append_nil]
   refine ⟨i1,fun x=>?_⟩
   rw [i2,List.mem_append,List.mem_singleton]
   refine ⟨.inl,fun hx=>hx.elim id fun hx=>?_⟩
   subst hx
   simp only [Lib.keeps,decide_eq_false_iff_not,not_or,Decidable.not_not] at hk
   obtain ⟨hk0,hk1⟩:=hk
   rw [hg,show zs.toArray[m - 1]! = zs[m - 1] by simp [getElem!_pos,show m - 1 < zs.length by omega]] at hk1
   rw [hk1,List.mem_iff_getElem]
   exact ⟨m - 1,by rw [List.length_take];omega,by rw [List.getElem_take]⟩
def ascOf (l:List ByteArray):List ByteArray:=(Lib.compact ((l.map (·.data.toList)).mergeSort fun x y=>decide (x≤y))).map unB
theorem ascOf_spec (l:List ByteArray):asc (ascOf l)∧(∀ x,x ∈ ascOf l ↔ x ∈ l)∧(ascOf l).length≤l.length:=by
 have h1:((l.map (·.data.toList)).mergeSort fun x y=>decide (x≤y)).Pairwise fun x y=>x≤y :=
  (List.pairwise_mergeSort (le:=fun x y=>decide (x≤y)) (fun a b c h1 h2=>by simp only [decide_eq_true_eq] at *;exact List.le_trans h1 h2) (fun a b=>by simp only [Bool.or_eq_true,decide_eq_true_eq];exact List.le_total a b) _).imp fun h=>by simpa using h
 obtain ⟨i1,i2⟩:=compactUpTo_spec _ h1 _ (Nat.le_refl _)
 rw [List.take_length] at i2
 refine ⟨?_,fun x=>?_,?_⟩
 ·rw [asc,ascOf,List.pairwise_map]
  refine i1.imp fun {a b} h=>?_
  rw [bless_lt,ByteArray.toList_eq,ByteArray.toList_eq,list_unB,list_unB]
  exact h
 ·rw [ascOf,List.mem_map]
  constructor
  ·rintro ⟨y,h,rfl⟩
   have:=(List.mergeSort_perm _ _).mem_iff.1 ((i2 y).1 h)
   obtain ⟨z,hz,rfl⟩:=List.mem_map.1 this
   exact hz
  ·intro h
   exact ⟨x.data.toList,(i2 _).2 ((List.mergeSort_perm _ _).mem_iff.2 (List.mem_map.2 ⟨x,h,rfl⟩)),unB_list x⟩
 ·rw [ascOf,List.length_map]
  refine Nat.le_trans (Lib.compact_length_le _) ?_
  rw [(List.mergeSort_perm _ _).length_eq,List.length_map]
  exact Nat.le_refl _
end Go.Proofs.YthhfpcbpiphfiaaGreatDoor
namespace Go.Proofs.YthhfpcbpiphfiaaGreatDoor
open Go.RowKit
open IntWalk renaming iteOmega → iO, toNatUp → tN
set_option linter.unusedVariables false
set_option linter.unusedSimpArgs false
def entM (bl:List ByteArray) (m:Mod):List Ent:=if inM m.name bl then [] else m.aliases.map fun p=>⟨p,m.name⟩
def entX (M:List Mod) (x:Ext2):List Ent:=if inM x.value (M.map Mod.name) then [⟨x.name,x.value⟩] else []
def entsC (c:Cfg):List Ent:=c.modules.flatMap (entM c.blocked)++c.extra.flatMap (entX c.modules)
def findA (c:Cfg) (s:ByteArray):List ByteArray:=if s=⟨#[]⟩ then [] else ascOf (foundN (entsC c) s (s.size+1))
def matsA (m:Mod) (s:ByteArray):Bool:=decide (s≠⟨#[]⟩) && m.aliases.any fun p=>matchM p s
def foundR (c:Cfg) (s:ByteArray) (m:Mod):Bool:=decide (s≠⟨#[]⟩) && ((matsA m s && !inM m.name c.blocked) || c.extra.any fun x=>decide (x.value=m.name) && matchM x.name s)
theorem entsC_mem (c:Cfg) (s x:ByteArray) (hs:s≠⟨#[]⟩):(∃ y ∈ entsC c,matchM y.pat s=true∧y.mod=x) ↔ ∃ m ∈ c.modules,foundR c s m=true∧m.name=x:=by
 constructor
 ·rintro ⟨y,hy,hm,rfl⟩
  unfold entsC at hy
  rcases List.mem_append.1 hy with hy|hy
  ·obtain ⟨m,h1,h2⟩:=List.mem_flatMap.1 hy
   unfold entM at h2
   split at h2
   ·cases h2
   ·rename_i hb
    obtain ⟨p,h3,rfl⟩:=List.mem_map.1 h2
    refine ⟨m,h1,?_,rfl⟩
    have h4:m.aliases.any (fun p=>matchM p s)=true:=List.any_eq_true.2 ⟨p,h3,hm⟩
    unfold foundR matsA
    simp [hs,h4,hb]
  ·obtain ⟨e,h1,h2⟩:=List.mem_flatMap.1 hy
   unfold entX at h2
   split at h2
   ·rename_i hb
    rw [inM_iff] at hb
    obtain ⟨m,h3,h4⟩:=List.mem_map.1 hb
    rw [List.mem_singleton] at h2
    subst h2
    refine ⟨m,h3,?_,h4⟩
    have h5:c.extra.any (fun x=>decide (x.value=m.name) && matchM x.name s)=true:=List.any_eq_true.2 ⟨e,h1,by simp [h4,show matchM e.name s=true from hm]⟩
    unfold foundR
    simp [hs,h5]
   ·cases h2
 ·rintro ⟨m,hm,hf,rfl⟩
  unfold foundR matsA at hf
  simp only [Bool.and_eq_true,Bool.or_eq_true,decide_eq_true_eq,Bool.not_eq_true'] at hf
  obtain ⟨_,⟨⟨_,h1⟩,h2⟩|h1⟩:=hf
  ·obtain ⟨p,h3,h4⟩:=List.any_eq_true.1 h1
   refine ⟨⟨p,m.name⟩,?_,h4,rfl⟩
   refine List.mem_append.2 (.inl (List.mem_flatMap.2 ⟨m,hm,?_⟩))
   unfold entM
   rw [if_neg (by simp [h2])]
   exact List.mem_map.2 ⟨p,h3,rfl⟩
  ·obtain ⟨e,h3,h4⟩:=List.any_eq_true.1 h1
   rw [Bool.and_eq_true,decide_eq_true_eq] at h4
   refine ⟨⟨e.name,e.value⟩,?_,h4.2,h4.1⟩
   refine List.mem_append.2 (.inr (List.mem_flatMap.2 ⟨e,h3,?_⟩))
   unfold entX
   rw [if_pos (inM_iff.2 (List.mem_map.2 ⟨m,hm,h4.1.symm⟩))]
   simp
theorem findA_spec (c:Cfg) (s:ByteArray):asc (findA c s)∧∀ x,x ∈ findA c s ↔ ∃ m ∈ c.modules,foundR c s m=true∧m.name=x:=by
 unfold findA
 by_cases hs:s=⟨#[]⟩
 ·rw [if_pos hs]
  refine ⟨List.Pairwise.nil,fun x=>⟨fun h=>(by cases h),?_⟩⟩
  rintro ⟨m,_,h,_⟩
  unfold foundR at h
  simp [hs] at h
 ·rw [if_neg hs]
  obtain ⟨h1,h2,_⟩:=ascOf_spec (foundN (entsC c) s (s.size+1))
  exact ⟨h1,fun x=>by rw [h2,found_iff,entsC_mem c s x hs]⟩
end Go.Proofs.YthhfpcbpiphfiaaGreatDoor
