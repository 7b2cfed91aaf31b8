/- What the program computes, and the plain laws of it, part 22. -/
import Derived.WideKeyEntry
import Derived.Lib.AppendZerosOnto
import Derived.Lib.Join
import Derived.Test.YthhfpcbpiphfiaaGreatDoorR20
import Derived.Test.YthhfpcbpiphfiaaGreatDoorR21
namespace Go.Proofs.YthhfpcbpiphfiaaGreatDoor
attribute [local irreducible] PL QL PWPr PCalls Weak RetK Kontr PA
open Go.RowKit
open IntWalk renaming iteOmega → iO, toNatUp → tN
set_option linter.unusedVariables false
set_option linter.unusedSimpArgs false
set_option maxRecDepth 20000
set_option maxHeartbeats 1000000 in
theorem text_pure (s:ByteArray) (hs:s.size≤9223372036854775807):PCalls Tryz.prog 47 [.c (.v (.string s))] [] fun r os=>r = .c (.v (.bool (textS s)))∧os=[]:=by
 refine pcalls_of Tryz.func47 rfl (by simp [Tryz.ntmps47]) ?_
 rw [Tryz.ntmps47,Tryz.results47]
 push_cast [iO,tN]
 have cB:CutB 7 []:=trivial
 repeat' (first|((first|refine pC ?_|refine pQC ?_|refine pU ?_);push_cast [iO,tN])|(refine pif (fun h=>?_) (fun h=>?_)<;>first|exact pN h|push_cast [iO,tN]))
 (apply pwp_loop3 (α:=Nat) 7 [] (fun k=>[(6,.c (.v (.int .i64 k)))]) (fun k=>[]) (fun k=>k≤s.size∧(s.data.toList.take k).all textB=true) (fun k=>s.size - k) (0);(focus ((try push_cast [iO,tN]);rfl));(focus exact ⟨by omega,rfl⟩);(focus ((refine weak_fg ?_;try push_cast [iO,tN]))))
 rintro k ⟨hk,ha⟩
 push_cast [iO,tN]
 by_cases hlt:k < s.size
 ·by_cases h1:((s.data.toList.getD k 0).toNat:Int) < 32
  ·have e:=all_not hlt (p:=textB) (by unfold textB;rw [decide_eq_false (by omega)];rfl)
   repeat' (first|((first|refine pC ?_|refine pQC ?_|refine pU ?_);push_cast [iO,tN,h1])|(refine pif (fun h=>?_) (fun h=>?_)<;>first|exact pN h|push_cast [iO,tN,h1]))
   (refine retK_of [] ?_;push_cast [iO,tN])
   rw [textS,e];rfl
  ·by_cases h2:(126:Int) < ((s.data.toList.getD k 0).toNat:Int)
   ·have e:=all_not hlt (p:=textB) (by unfold textB;rw [decide_eq_false (p:=(s.data.toList.getD k 0).toNat≤126) (by omega),Bool.and_false])
    repeat' (first|((first|refine pC ?_|refine pQC ?_|refine pU ?_);push_cast [iO,tN,h1,h2])|(refine pif (fun h=>?_) (fun h=>?_)<;>first|exact pN h|push_cast [iO,tN,h1,h2]))
    (refine retK_of [] ?_;push_cast [iO,tN])
    rw [textS,e];rfl
   ·have e:=all_next hlt ha (by unfold textB;rw [decide_eq_true (by omega),decide_eq_true (by omega)];rfl)
    repeat' (first|((first|refine pC ?_|refine pQC ?_|refine pU ?_);push_cast [iO,tN,h1,h2])|(refine pif (fun h=>?_) (fun h=>?_)<;>first|exact pN h|push_cast [iO,tN,h1,h2]))
    exact ⟨k+1,⟨by omega,e⟩,by (refine weak_fg ?_;push_cast [iO,tN]),by omega⟩
 ·have hk2:k=s.size:=by omega
  subst hk2
  have he:s.data.toList.take s.size=s.data.toList:=List.take_of_length_le (Nat.le_refl _)
  rw [he] at ha
  have hd:decide ((s.size:Int)≤256)=decide (s.size≤256):=decide_eq_decide.2 (by omega)
  repeat' (first|((first|refine pC ?_|refine pQC ?_|refine pU ?_);push_cast [iO,tN])|(refine pif (fun h=>?_) (fun h=>?_)<;>first|exact pN h|push_cast [iO,tN]))
  (refine retK_of [] ?_;push_cast [iO,tN])
  rw [textS,ha,Bool.true_and,← hd]
set_option maxRecDepth 20000
def parseR (p:ByteArray):PV:=.two (if globM p=0 then .c (.sl 1 (altsD ((altsM p).getD []))) else .c (.v (.slice none 0 0))) (.c (.v (.int .i64 (globM p))))
set_option maxRecDepth 20000 in
set_option maxHeartbeats 4000000 in
theorem parse_pure (p:ByteArray) (hf:p.size≤9223372036854775807):PCalls Tryz.prog 28 [.c (.v (.string p))] [] fun r os=>r=parseR p∧os=[]:=by
 have ht:=text_pure p hf
 refine pcalls_of Tryz.func28 rfl (by simp [Tryz.ntmps28]) ?_
 rw [Tryz.ntmps28,Tryz.results28]
 push_cast [-List.reduceReplicate,iO,tN]
 unfold parseR
 by_cases h1:256 < p.size
 ·have hR:globM p=21:=by unfold globM;rw [if_pos h1]
  have h1':(256:Int) < (p.size:Int):=by omega
  repeat' (first|((first|refine pG ?_|refine pQ ?_|refine pU ?_);push_cast [-List.reduceReplicate,iO,tN,h1'])|(refine pif (fun h=>?_) (fun h=>?_)<;>first|exact pN h|push_cast [-List.reduceReplicate,iO,tN,h1']))
  (refine retK_of [] ?_;push_cast [-List.reduceReplicate,iO,tN,hR])
 have h1':¬ (256:Int) < (p.size:Int):=by omega
 by_cases h2:p.data.toList.all textB=true
 case neg =>
  have h2':=Bool.eq_false_iff.2 h2
  have hR:globM p=20:=by unfold globM;rw [if_neg h1,if_pos (by rw [h2'];rfl)]
  have hts:textS p=false:=by unfold textS;rw [h2'];rfl
  rw [hts] at ht
  repeat' (first|((refine plc [] (ht) ?_ ?_;push_cast [-List.reduceReplicate,iO,tN,h1'];rintro r os ⟨rfl,rfl⟩;push_cast [-List.reduceReplicate,iO,tN,h1']))|((first|refine pG ?_|refine pQ ?_|refine pU ?_);push_cast [-List.reduceReplicate,iO,tN,h1'])|(refine pif (fun h=>?_) (fun h=>?_)<;>first|exact pN h|push_cast [-List.reduceReplicate,iO,tN,h1']))
  (refine retK_of [] ?_;push_cast [-List.reduceReplicate,iO,tN,hR])
 have hts:textS p=true:=by unfold textS;rw [h2,decide_eq_true (by omega)];rfl
 rw [hts] at ht
 have ha:=alts_pure p (by omega) (text_byt h2) fun i hi=>bset_pure p i hi (by omega) (text_byt h2)
 cases hq:altsM p with
 | none =>
  have hR:globM p=20:=by unfold globM;rw [if_neg h1,if_neg (by rw [h2];simp),hq]
  rw [hq] at ha
  repeat' (first|((refine plc [] (ht) ?_ ?_;push_cast [-List.reduceReplicate,iO,tN,h1'];rintro r os ⟨rfl,rfl⟩;push_cast [-List.reduceReplicate,iO,tN,h1']))|((refine plc [0] (ha) ?_ ?_;push_cast [-List.reduceReplicate,iO,tN,h1'];rintro r os ⟨⟨i,rfl⟩,rfl⟩;push_cast [-List.reduceReplicate,iO,tN,h1']))|((first|refine pG ?_|refine pQ ?_|refine pU ?_);push_cast [-List.reduceReplicate,iO,tN,h1'])|(refine pif (fun h=>?_) (fun h=>?_)<;>first|exact pN h|push_cast [-List.reduceReplicate,iO,tN,h1']))
  (refine retK_of [] ?_;push_cast [-List.reduceReplicate,iO,tN,hR])
 | some l =>
  have hR:globM p=0:=by unfold globM;rw [if_neg h1,if_neg (by rw [h2];simp),hq]
  rw [hq] at ha
  repeat' (first|((refine plc [] (ht) ?_ ?_;push_cast [-List.reduceReplicate,iO,tN,h1'];rintro r os ⟨rfl,rfl⟩;push_cast [-List.reduceReplicate,iO,tN,h1']))|((refine plc [0] (ha) ?_ ?_;push_cast [-List.reduceReplicate,iO,tN,h1'];rintro r os ⟨⟨i,rfl⟩,rfl⟩;push_cast [-List.reduceReplicate,iO,tN,h1']))|((first|refine pG ?_|refine pQ ?_|refine pU ?_);push_cast [-List.reduceReplicate,iO,tN,h1'])|(refine pif (fun h=>?_) (fun h=>?_)<;>first|exact pN h|push_cast [-List.reduceReplicate,iO,tN,h1']))
  (refine retK_of [] ?_;push_cast [-List.reduceReplicate,iO,tN,hR])
  rfl
theorem gchk_pure (p:ByteArray) (hf:p.size≤9223372036854775807):PCalls Tryz.prog 41 [.c (.v (.string p))] [] fun r os=>r = .c (.v (.int .i64 (globM p)))∧os=[]:=by
 have hp:=parse_pure p hf
 unfold parseR at hp
 refine pcalls_of Tryz.func41 rfl (by simp [Tryz.ntmps41]) ?_
 rw [Tryz.ntmps41,Tryz.results41]
 push_cast [-List.reduceReplicate,iO,tN]
 by_cases h:globM p=0
 ·rw [if_pos h] at hp
  repeat' (first |  ((refine plc [] (hp) ?_ ?_;push_cast [-List.reduceReplicate,iO,tN];rintro r os ⟨rfl,rfl⟩;push_cast [-List.reduceReplicate,iO,tN]))  | ((first|refine pG ?_|refine pQ ?_|refine pU ?_);push_cast [-List.reduceReplicate,iO,tN])|(refine pif (fun h=>?_) (fun h=>?_)<;>first|exact pN h|push_cast [-List.reduceReplicate,iO,tN]))
  (refine retK_of [] ?_;push_cast [-List.reduceReplicate,iO,tN])
 ·rw [if_neg h] at hp
  repeat' (first |  ((refine plc [] (hp) ?_ ?_;push_cast [-List.reduceReplicate,iO,tN];rintro r os ⟨rfl,rfl⟩;push_cast [-List.reduceReplicate,iO,tN]))  | ((first|refine pG ?_|refine pQ ?_|refine pU ?_);push_cast [-List.reduceReplicate,iO,tN])|(refine pif (fun h=>?_) (fun h=>?_)<;>first|exact pN h|push_cast [-List.reduceReplicate,iO,tN]))
  (refine retK_of [] ?_;push_cast [-List.reduceReplicate,iO,tN])
set_option maxRecDepth 20000 in
set_option maxHeartbeats 4000000 in
theorem match_pure (p s:ByteArray) (hf:p.size≤9223372036854775807) (hs:s.size≤9000000000000000000):PCalls Tryz.prog 34 [.c (.v (.string p)),.c (.v (.string s))] [] fun r os=>r = .c (.v (.bool (matchM p s)))∧os=[]:=by
 have hp:=parse_pure p hf
 unfold parseR at hp
 refine pcalls_of Tryz.func34 rfl (by simp [Tryz.ntmps34]) ?_
 rw [Tryz.ntmps34,Tryz.results34]
 push_cast [-List.reduceReplicate,iO,tN]
 have cB:CutB 11 [18,19,33,34,35]:=trivial
 by_cases h0:globM p=0
 case neg =>
  rw [if_neg h0] at hp
  have hR:matchM p s=false:=by unfold matchM;rw [decide_eq_false h0];rfl
  repeat' (first|((refine plc [] (hp) ?_ ?_;push_cast [-List.reduceReplicate,iO,tN,h0];rintro r os ⟨rfl,rfl⟩;push_cast [-List.reduceReplicate,iO,tN,h0]))|((first|refine pC ?_|refine pQC ?_|refine pU ?_);push_cast [-List.reduceReplicate,iO,tN,h0])|(refine pif (fun h=>?_) (fun h=>?_)<;>first|exact pN h|push_cast [-List.reduceReplicate,iO,tN,h0]))
  (refine retK_of [] ?_;push_cast [-List.reduceReplicate,iO,tN,hR])
 rw [if_pos h0,h0] at hp
 repeat' (first |  ((refine plc [] (hp) ?_ ?_;push_cast [-List.reduceReplicate,iO,tN];rintro r os ⟨rfl,rfl⟩;push_cast [-List.reduceReplicate,iO,tN]))  | ((first|refine pC ?_|refine pQC ?_|refine pU ?_);push_cast [-List.reduceReplicate,iO,tN])|(refine pif (fun h=>?_) (fun h=>?_)<;>first|exact pN h|push_cast [-List.reduceReplicate,iO,tN]))
 (apply pwp_loop3 (α:=Nat) 11 [18,19,33,34,35] (fun k=>[(19,.c (.v (.int .i64 k)))]) (fun k=>[]) (fun k=>k≤s.size∧(s.data.toList.take k).all textB=true) (fun k=>s.size - k) (0);(focus ((try push_cast [-List.reduceReplicate,iO,tN]);rfl));(focus exact ⟨by omega,rfl⟩);(focus ((refine weak_fg ?_;try push_cast [-List.reduceReplicate,iO,tN]))))
 rintro k ⟨hk,ha⟩
 push_cast [-List.reduceReplicate,iO,tN]
 by_cases hlt:k < s.size
 ·have bad:textB (s.data.toList.getD k 0)=false → matchM p s=false:=fun hx=>by unfold matchM;rw [all_not hlt hx];simp
  by_cases h1:((s.data.toList.getD k 0).toNat:Int) < 32
  ·have hR:=bad (by unfold textB;rw [decide_eq_false (by omega)];rfl)
   repeat' (first|((first|refine pC ?_|refine pQC ?_|refine pU ?_);push_cast [-List.reduceReplicate,iO,tN,h1])|(refine pif (fun h=>?_) (fun h=>?_)<;>first|exact pN h|push_cast [-List.reduceReplicate,iO,tN,h1]))
   (refine retK_of [] ?_;push_cast [-List.reduceReplicate,iO,tN,hR])
  ·by_cases h2:(126:Int) < ((s.data.toList.getD k 0).toNat:Int)
   ·have hR:=bad (by unfold textB;rw [decide_eq_false (p:=(s.data.toList.getD k 0).toNat≤126) (by omega),Bool.and_false])
    repeat' (first|((first|refine pC ?_|refine pQC ?_|refine pU ?_);push_cast [-List.reduceReplicate,iO,tN,h1,h2])|(refine pif (fun h=>?_) (fun h=>?_)<;>first|exact pN h|push_cast [-List.reduceReplicate,iO,tN,h1,h2]))
    (refine retK_of [] ?_;push_cast [-List.reduceReplicate,iO,tN,hR])
   ·have e:=all_next hlt ha (by unfold textB;rw [decide_eq_true (by omega),decide_eq_true (by omega)];rfl)
    repeat' (first|((first|refine pC ?_|refine pQC ?_|refine pU ?_);push_cast [-List.reduceReplicate,iO,tN,h1,h2])|(refine pif (fun h=>?_) (fun h=>?_)<;>first|exact pN h|push_cast [-List.reduceReplicate,iO,tN,h1,h2]))
    exact ⟨k+1,⟨by omega,e⟩,by (refine weak_fg ?_;push_cast [-List.reduceReplicate,iO,tN]),by omega⟩
 have hk2:k=s.size:=by omega
 subst hk2
 have he:s.data.toList.take s.size=s.data.toList:=List.take_of_length_le (Nat.le_refl _)
 rw [he] at ha
 obtain ⟨l,hq⟩:∃ l,altsM p=some l:=by
  cases hq:altsM p with
  | some l=>exact ⟨l,rfl⟩
  | none =>
   unfold globM at h0
   rw [hq] at h0
   split at h0
   ·cases h0
   ·split at h0<;>cases h0
 have hok:=altsM_ok hq
 have hp256:p.size≤256:=by
  unfold globM at h0
  split at h0
  ·cases h0
  ·omega
 have hll:=altGo_len (Nat.zero_le _) (Nat.zero_le _) (show altGo p 0 [] []=some l from hq)
 have hR:matchM p s=l.any fun x=>mat x s.data.toList:=by unfold matchM;rw [decide_eq_true h0,ha,hq];rfl
 rw [hq,Option.getD_some,altsD]
 repeat' (first|((first|refine pC ?_|refine pQC ?_|refine pU ?_);push_cast [-List.reduceReplicate,iO,tN])|(refine pif (fun h=>?_) (fun h=>?_)<;>first|exact pN h|push_cast [-List.reduceReplicate,iO,tN]))
 (apply pwp_loop3 (α:=Nat) 11 [18,19,33,34,35] (fun k=>[(35,.c (.v (.int .i64 k)))]) (fun k=>[]) (fun k=>k≤l.length∧((l.take k).any fun x=>mat x s.data.toList)=false) (fun k=>l.length - k) (0);(focus ((try push_cast [-List.reduceReplicate,iO,tN]);rfl));(focus exact ⟨by omega,rfl⟩);(focus ((refine weak_fg ?_;try push_cast [-List.reduceReplicate,iO,tN]))))
 rintro k ⟨hk,hn⟩
 push_cast [-List.reduceReplicate,iO,tN]
 by_cases hlt:k < l.length
 ·have hx:=hok (l.getD k default) (by rw [getD_lt l hlt];exact List.getElem_mem _)
  have hm:=matches_pure (l.getD k default) s hx.1 (by have:=hx.2;omega) hs (text_byt ha)
  cases hv:mat (l.getD k default) s.data.toList with
  | true =>
   rw [hv] at hm
   have hR2:matchM p s=true:=by rw [hR,List.any_eq_true];exact ⟨l.getD k default,by rw [getD_lt l hlt];exact List.getElem_mem _,hv⟩
   repeat' (first |  ((refine plc [] (hm) ?_ ?_;push_cast [-List.reduceReplicate,iO,tN];rintro r os ⟨rfl,rfl⟩;push_cast [-List.reduceReplicate,iO,tN]))  | ((first|refine pC ?_|refine pQC ?_|refine pU ?_);push_cast [-List.reduceReplicate,iO,tN])|(refine pif (fun h=>?_) (fun h=>?_)<;>first|exact pN h|push_cast [-List.reduceReplicate,iO,tN]))
   (refine retK_of [] ?_;push_cast [-List.reduceReplicate,iO,tN,hR2])
  | false =>
   rw [hv] at hm
   have hn2:((l.take (k+1)).any fun x=>mat x s.data.toList)=false:=by
    rw [List.take_succ_eq_append_getElem hlt,List.any_append,hn,← getD_lt l hlt]
    simp only [List.any_cons,List.any_nil,hv];rfl
   repeat' (first |  ((refine plc [] (hm) ?_ ?_;push_cast [-List.reduceReplicate,iO,tN];rintro r os ⟨rfl,rfl⟩;push_cast [-List.reduceReplicate,iO,tN]))  | ((first|refine pC ?_|refine pQC ?_|refine pU ?_);push_cast [-List.reduceReplicate,iO,tN])|(refine pif (fun h=>?_) (fun h=>?_)<;>first|exact pN h|push_cast [-List.reduceReplicate,iO,tN]))
   exact ⟨k+1,⟨by omega,hn2⟩,by (refine weak_fg ?_;push_cast [-List.reduceReplicate,iO,tN]),by omega⟩
 ·have hk2:k=l.length:=by omega
  subst hk2
  rw [List.take_length] at hn
  rw [hn] at hR
  repeat' (first|((first|refine pC ?_|refine pQC ?_|refine pU ?_);push_cast [-List.reduceReplicate,iO,tN])|(refine pif (fun h=>?_) (fun h=>?_)<;>first|exact pN h|push_cast [-List.reduceReplicate,iO,tN]))
  (refine retK_of [] ?_;push_cast [-List.reduceReplicate,iO,tN,hR])
end Go.Proofs.YthhfpcbpiphfiaaGreatDoor
namespace Go.Proofs.YthhfpcbpiphfiaaGreatDoor
open Go.RowKit
open IntWalk renaming iteOmega → iO, toNatUp → tN
set_option linter.unusedVariables false
set_option linter.unusedSimpArgs false
structure Evt where
 seq:Int
 act:Int
 idx:Int
 path:ByteArray
 old:ByteArray
 deriving DecidableEq,Inhabited
def Evt.d (e:Evt):List D:=[.v (.int .i64 e.seq),.v (.int .i64 e.act),.v (.int .i64 e.idx),.v (.string e.path),.v (.string e.old)]
attribute [push_cast] Evt.d
structure Ker where
 tree:List Dev
 mods:List Mod
 loaded:List ByteArray
 evs:List Evt
 top:Int
end Go.Proofs.YthhfpcbpiphfiaaGreatDoor
namespace Go.Proofs.YthhfpcbpiphfiaaGreatDoor
attribute [local irreducible] PL QL PWPr PCalls Weak RetK Kontr PA
open Go.RowKit
open IntWalk renaming iteOmega → iO, toNatUp → tN
set_option linter.unusedVariables false
set_option linter.unusedSimpArgs false
set_option maxRecDepth 20000
def kerB (a b:Nat) (k:Ker):Ob:=.box 63 [.sl 10 (k.tree.map Dev.d),.sl 6 (k.mods.map Mod.d),.own a k.loaded.length,.own b k.evs.length,.v (.int .i64 k.top)]
def kerL (k:Ker):Ob:=.arr 9 1 (k.loaded.map strD)
def kerV (k:Ker):Ob:=.arr 223 5 (k.evs.map Evt.d)
def kerO (k:Ker):List Ob:=[kerB 1 2 k,kerL k,kerV k]
attribute [push_cast] kerB kerL kerV kerO
theorem kmod1_pure (m:Mod) (n:ByteArray):PCalls Tryz.prog 38 [.agg m.e,.c (.ptr 0 0)] [.box 9 [.v (.string n)]] fun r os=>r = .c (.v (.bool (decide (m.name=n))))∧os=[.box 9 [.v (.string n)]]:=by
 refine pcalls_of Tryz.func38 rfl (by simp [Tryz.ntmps38]) ?_
 rw [Tryz.ntmps38,Tryz.results38]
 push_cast [iO,tN]
 repeat' (first|((first|refine pG ?_|refine pQ ?_|refine pU ?_);push_cast [iO,tN])|(refine pif (fun h=>?_) (fun h=>?_)<;>first|exact pN h|push_cast [iO,tN]))
 (refine retK_of [0] ?_;push_cast [iO,tN])
theorem mod_no {l:List Mod} {n:ByteArray} (h:∀ x ∈ l,decide (x.name=n)=false):modOf l n=none:=by
 unfold modOf
 rw [List.find?_eq_none]
 intro x hx
 simpa using h x hx
theorem mod_at {l:List Mod} {n:ByteArray} {i:Nat} (hi:i < l.length) (hq:decide ((l.getD i default).name=n)=true) (hpre:∀ x ∈ l.take i,decide (x.name=n)=false):modOf l n=some (l.getD i default):=by
 unfold modOf
 rw [List.find?_eq_some_iff_append]
 refine ⟨hq,l.take i,l.drop (i+1),?_,fun a ha=>by simpa using hpre a ha⟩
 rw [getD_lt l hi]
 conv=>lhs;rw [← List.take_append_drop i l,List.drop_eq_getElem_cons hi]
end Go.Proofs.YthhfpcbpiphfiaaGreatDoor
namespace Go.Proofs.YthhfpcbpiphfiaaGreatDoor
open Go.RowKit
open IntWalk renaming iteOmega → iO, toNatUp → tN
set_option linter.unusedVariables false
set_option linter.unusedSimpArgs false
theorem infoGrT:(Tryz.prog.info? 9).map (fun i=>(i.zero,i.size,i.bytes))=some (some (Value.string ByteArray.empty),1,16):=by kernel_rfl
set_option maxRecDepth 1000000 in
theorem growT_walk (n:Nat) (w:World) (hn:n≤1099511627776) :
  Calls Tryz.prog 62 #[.slice none 0 0,.int .i64 (n:Int)] w fun e w'=>∃ vs,e = .returned vs∧w'.ownsRow w.heap.size 9 1 vs 0 []∧Ext No w w':=by
 by_cases h0:n=0
 ·subst h0
  go_enter Tryz.func62,Tryz.ntmps62
  go_wp2
  go_ret
  exact ⟨_,rfl,own_nil _ _ _ _,Ext.refl _ _⟩
 ·obtain ⟨i,hi,hz,hs,hb⟩:=info_parts infoGrT
  have hrun:=Lib.run_append_nil_zeros (P:=Tryz.prog) w 23 3 23 9 i _ .i64 .i64 Tryz.underlying23 Tryz.underlying3 hi hz n (by omega) (by rw [hs];decide) (by omega) (by rw [hb];omega)
  have hown:(w.drew.alloc (.cells (Builtin.zeroCells (Value.string ByteArray.empty).cells n++Builtin.zeroCells (Value.string ByteArray.empty).cells (grownCap w n 0 9 - n)) 9)).ownsRow w.heap.size 9 1 (.slice (some ⟨w.heap.size,0,none⟩) 0 (grownCap w n 0 9)) 0 []:=by
   have hge:=grownCap_ge w n 0 9
   have hcm:grownCap w n 0 9≤maxLen:=grownCap_le_maxLen w n 0 9 (by simp only [maxLen];omega)
   refine ⟨rfl,.inr ⟨w.heap.size,_,_,rfl,Nat.le_refl _,heap_alloc_new w.drew _,Nat.zero_le _,hcm,?_,by simp⟩⟩
   simp only [Array.size_append,size_zeroCells]
   show n * 1+(grownCap w n 0 9 - n) * 1=_
   omega
  have hE:Ext No w (w.drew.alloc (.cells (Builtin.zeroCells (Value.string ByteArray.empty).cells n++Builtin.zeroCells (Value.string ByteArray.empty).cells (grownCap w n 0 9 - n)) 9)):=(Ext.refl No w).drew.alloc _
  generalize w.drew.alloc (.cells (Builtin.zeroCells (Value.string ByteArray.empty).cells n++Builtin.zeroCells (Value.string ByteArray.empty).cells (grownCap w n 0 9 - n)) 9)=W1 at hrun hown hE
  have hcap:=grownCap_ge w n 0 9
  generalize grownCap w n 0 9=cap at hrun hown hcap
  have HR:=Lib.hid hrun
  have HO:=Lib.hid hown
  have HE:=Lib.hid hE
  clear hrun hown hE hi hz hs hb
  go_enter Tryz.func62,Tryz.ntmps62
  go_wp2_with (at_builtin;refine Lib.wpList_append_run _ rfl (.tmp 20) (.tmp 21) 23 3 rfl (.slice none 0 0) (.int .i64 (n:Int)) rfl rfl _ W1 HR.out ?_)
  go_ret
  exact ⟨_,rfl,HO.out,HE.out⟩
theorem growT_pure (n:Nat) (hn:n≤1000000000) :
  PCalls Tryz.prog 62 [.c (.v (.slice none 0 0)),.c (.v (.int .i64 n))] [] fun r os=>r = .c (.own 0 0)∧os=[.arr 9 1 []]:=fun Γ w xs hm hx=>by
 have hxs:=rp_vals (vs:=[.slice none 0 0,.int .i64 (n:Int)]) hx
 rw [hxs]
 refine (growT_walk n w (by omega)).mono ?_
 rintro e w' ⟨v,rfl,hrow,hE⟩
 have hS:=Same.of_ext hE
 have hn0:Γ.n=0:=hm.n
 obtain ⟨_,h2⟩:=hrow
 have fin:∀ (b c:Nat) (v:Value),RO w' (Γ.push b c) Γ.n (.arr 9 1 []) → (0 < c → w.heap.size≤b) → OwnRep (Γ.push b c) Γ.n 0 v →
   ∃ r os' Γ' y,Ending.returned v = .returned y∧(r = .c (.own 0 0)∧os'=[.arr 9 1 []])∧RP w' Γ' r y∧([]:List Ob).length≤os'.length∧MemOk Γ' os' w'∧Grow ([]:List Ob).length Γ w Γ' w':=by
  intro b c v hro hb hrep
  rw [hn0] at hrep
  exact ⟨_,_,Γ.push b c,v,rfl,⟨rfl,rfl⟩,⟨by simp [G.push,hn0],hrep⟩,by simp,hm.push hS _ b c hro hb,grow_push hm hE b c hb (Nat.zero_le _)⟩
 rcases h2 with ⟨rfl,_⟩|⟨g,cap,cur,rfl,hb,hg,_,hcm,hsz,_⟩
 ·exact fin 0 0 _ ⟨by simp,by omega,fun _=>rfl,fun h=>absurd h (by simp [G.push,upd_same])⟩ (fun h=>absurd h (by omega)) (.inl ⟨by simp [G.push,upd_same],⟨none,rfl⟩,rfl⟩)
 ·rcases Nat.eq_zero_or_pos cap with h0|h0
  ·subst h0
   exact fin 0 0 _ ⟨by simp,by omega,fun _=>rfl,fun h=>absurd h (by simp [G.push,upd_same])⟩ (fun h=>absurd h (by omega)) (.inl ⟨by simp [G.push,upd_same],⟨_,rfl⟩,rfl⟩)
  ·refine fin g cap _ ⟨by simp,by omega,fun _=>rfl,fun _=>⟨cur,by simp only [G.push,upd_same];exact hg,by simp only [G.push,upd_same];exact hsz,by simp,by simp only [G.push,upd_same];exact hcm,by simp [All2]⟩⟩ (fun _=>hb) (.inr ⟨by simp [G.push,upd_same,h0],by simp [G.push,upd_same],by simp⟩)
end Go.Proofs.YthhfpcbpiphfiaaGreatDoor
namespace Go.Proofs.YthhfpcbpiphfiaaGreatDoor
attribute [local irreducible] PL QL PWPr PCalls Weak RetK Kontr PA
open Go.RowKit
open IntWalk renaming iteOmega → iO, toNatUp → tN
set_option linter.unusedVariables false
set_option linter.unusedSimpArgs false
set_option maxRecDepth 20000
set_option maxRecDepth 20000
set_option maxHeartbeats 4000000 in
theorem concat3_pure (A B C:List ByteArray) (hA:A.length≤1000000) (hB:B.length≤1000000) (hC:C.length≤1000000) :
  PCalls Tryz.prog 43 [.c (.sl 1 [[D.sl 1 (A.map strD)],[D.sl 1 (B.map strD)],[D.sl 1 (C.map strD)]])] [] fun r os=>r = .c (.own 0 ((A++B++C).length))∧os=[.arr 9 1 ((A++B++C).map strD)]:=by
 refine pcalls_of Tryz.func43 rfl (by simp [Tryz.ntmps43]) ?_
 rw [Tryz.ntmps43,Tryz.results43]
 push_cast [iO,tN]
 have cB:CutB 12 [25,26,27]:=trivial
 repeat' (first|((first|refine pC ?_|refine pQC ?_|refine pU ?_);push_cast [iO,tN])|(refine pif (fun h=>?_) (fun h=>?_)<;>first|exact pN h|push_cast [iO,tN]))
 (apply pwp_loop3 (α:=Nat) 12 [25,26,27] (fun k=>[(11,.c (.v (.int .i64 k))),(3,.c (.v (.int .i64 (if k=0 then 0 else if k=1 then (A.length:Int) else if k=2 then A.length+B.length else A.length+B.length+C.length))))]) (fun k=>[]) (fun k=>k≤3) (fun k=>3 - k) (0);(focus ((try push_cast [iO,tN]);rfl));(focus exact (by omega));(focus ((refine weak_fg ?_;try push_cast [iO,tN]))))
 intro k hk
 have h3:k=0∨k=1∨k=2∨k=3:=by omega
 rcases h3 with rfl|rfl|rfl|rfl
 ·push_cast [iO,tN]
  repeat' (first|((first|refine pC ?_|refine pQC ?_|refine pU ?_);push_cast [iO,tN])|(refine pif (fun h=>?_) (fun h=>?_)<;>first|exact pN h|push_cast [iO,tN]))
  exact ⟨1,by omega,by (refine weak_fg ?_;push_cast [iO,tN]),by omega⟩
 ·push_cast [iO,tN]
  repeat' (first|((first|refine pC ?_|refine pQC ?_|refine pU ?_);push_cast [iO,tN])|(refine pif (fun h=>?_) (fun h=>?_)<;>first|exact pN h|push_cast [iO,tN]))
  exact ⟨2,by omega,by (refine weak_fg ?_;push_cast [iO,tN]),by omega⟩
 ·push_cast [iO,tN]
  repeat' (first|((first|refine pC ?_|refine pQC ?_|refine pU ?_);push_cast [iO,tN])|(refine pif (fun h=>?_) (fun h=>?_)<;>first|exact pN h|push_cast [iO,tN]))
  exact ⟨3,by omega,by (refine weak_fg ?_;push_cast [iO,tN]),by omega⟩
 ·have hg:=growT_pure (A.length+B.length+C.length) (by omega)
  push_cast [iO,tN]
  repeat' (first |  (refine plc [] (hg) ?_ ?_;push_cast [iO,tN];rintro r os ⟨rfl,rfl⟩;push_cast [iO,tN])  | ((first|refine pC ?_|refine pQC ?_|refine pU ?_);push_cast [iO,tN])|(refine pif (fun h=>?_) (fun h=>?_)<;>first|exact pN h|push_cast [iO,tN]))
  (apply pwp_loop3 (α:=Nat) 12 [25,26,27] (fun k=>[(27,.c (.v (.int .i64 k))),(6,.c (.own 0 (if k=0 then 0 else if k=1 then A.length else if k=2 then A.length+B.length else A.length+B.length+C.length)))]) (fun k=>[(0,.arr 9 1 (if k=0 then [] else if k=1 then A.map strD else if k=2 then (A++B).map strD else (A++B++C).map strD))]) (fun k=>k≤3) (fun k=>3 - k) (0);(focus ((try push_cast [iO,tN]);rfl));(focus exact (by omega));(focus ((refine weak_fg ?_;try push_cast [iO,tN]))))
  intro k hk
  have h3:k=0∨k=1∨k=2∨k=3:=by omega
  rcases h3 with rfl|rfl|rfl|rfl
  ·push_cast [iO,tN]
   repeat' (first|((first|refine pC ?_|refine pQC ?_|refine pU ?_);push_cast [iO,tN])|(refine pif (fun h=>?_) (fun h=>?_)<;>first|exact pN h|push_cast [iO,tN]))
   exact ⟨1,by omega,by (refine weak_fg ?_;push_cast [iO,tN]),by omega⟩
  ·push_cast [iO,tN]
   repeat' (first|((first|refine pC ?_|refine pQC ?_|refine pU ?_);push_cast [iO,tN])|(refine pif (fun h=>?_) (fun h=>?_)<;>first|exact pN h|push_cast [iO,tN]))
   exact ⟨2,by omega,by (refine weak_fg ?_;push_cast [iO,tN]),by omega⟩
  ·push_cast [iO,tN]
   repeat' (first|((first|refine pC ?_|refine pQC ?_|refine pU ?_);push_cast [iO,tN])|(refine pif (fun h=>?_) (fun h=>?_)<;>first|exact pN h|push_cast [iO,tN]))
   exact ⟨3,by omega,by (refine weak_fg ?_;push_cast [iO,tN]),by omega⟩
  ·push_cast [iO,tN]
   repeat' (first|((first|refine pC ?_|refine pQC ?_|refine pU ?_);push_cast [iO,tN])|(refine pif (fun h=>?_) (fun h=>?_)<;>first|exact pN h|push_cast [iO,tN]))
   (refine retK_of [0] ?_;push_cast [iO,tN])
   all_goals omega
set_option maxRecDepth 20000
def fewB (m:Mod):Bool:=decide (m.aliases.length≤16) && decide (m.needs.length≤16) && decide (m.pre.length≤16) && decide (m.post.length≤16)
def modB (m:Mod):Bool:=fewB m && !(m.aliases.any fun p=>decide (globM p≠0)) && validS m.name && !((m.needs++m.pre++m.post).any fun s=>!validS s)
structure ModFit (m:Mod):Prop where
 name:Fit m.name
 als:∀ s ∈ m.aliases,Fit s
 ne:∀ s ∈ m.needs,Fit s
 pr:∀ s ∈ m.pre,Fit s
 po:∀ s ∈ m.post,Fit s
 l1:m.aliases.length≤9223372036854775807
 l2:m.needs.length≤9223372036854775807
 l3:m.pre.length≤9223372036854775807
 l4:m.post.length≤9223372036854775807
theorem kval1_pure (p:ByteArray) (hp:Fit p):PCalls Tryz.prog 40 [.c (.v (.string p))] [] fun r os=>r = .c (.v (.bool (decide (globM p≠0))))∧os=[]:=by
 have hc:=gchk_pure p hp
 refine pcalls_of Tryz.func40 rfl (by simp [Tryz.ntmps40]) ?_
 rw [Tryz.ntmps40,Tryz.results40]
 push_cast [iO,tN]
 repeat' (first |  ((refine plc [] (hc) ?_ ?_;push_cast [iO,tN];rintro r os ⟨rfl,rfl⟩;push_cast [iO,tN]))  | ((first|refine pG ?_|refine pQ ?_|refine pU ?_);push_cast [iO,tN])|(refine pif (fun h=>?_) (fun h=>?_)<;>first|exact pN h|push_cast [iO,tN]))
 (refine retK_of [] ?_;push_cast [iO,tN])
theorem kval2_pure (p:ByteArray) (hp:Fit p):PCalls Tryz.prog 44 [.c (.v (.string p))] [] fun r os=>r = .c (.v (.bool (!validS p)))∧os=[]:=by
 have hc:=valid_pure p hp
 refine pcalls_of Tryz.func44 rfl (by simp [Tryz.ntmps44]) ?_
 rw [Tryz.ntmps44,Tryz.results44]
 push_cast [iO,tN]
 repeat' (first |  ((refine plc [] (hc) ?_ ?_;push_cast [iO,tN];rintro r os ⟨rfl,rfl⟩;push_cast [iO,tN]))  | ((first|refine pG ?_|refine pQ ?_|refine pU ?_);push_cast [iO,tN])|(refine pif (fun h=>?_) (fun h=>?_)<;>first|exact pN h|push_cast [iO,tN]))
 (refine retK_of [] ?_;push_cast [iO,tN])
def lstM (m:Mod) (k:Nat):List ByteArray:=if k=0 then m.aliases else if k=1 then m.needs else if k=2 then m.pre else m.post
set_option maxHeartbeats 8000000 in
theorem kvalid_pure (m:Mod) (hm:ModFit m):PCalls Tryz.prog 23 [.agg m.e] [] fun r os=>r = .c (.v (.bool (modB m)))∧os=[]:=by
 refine pcalls_of Tryz.func23 rfl (by simp [Tryz.ntmps23]) ?_
 rw [Tryz.ntmps23,Tryz.results23]
 have q1:=hm.l1
 have q2:=hm.l2
 have q3:=hm.l3
 have q4:=hm.l4
 push_cast [iO,tN]
 have cB:CutB 5 [13,14,15,29]:=trivial
 repeat' (first|((first|refine pC ?_|refine pQC ?_|refine pU ?_);push_cast [iO,tN])|(refine pif (fun h=>?_) (fun h=>?_)<;>first|exact pN h|push_cast [iO,tN]))
 (apply pwp_loop3 (α:=Nat) 5 [13,14,15,29] (fun k=>[(15,.c (.v (.int .i64 k)))]) (fun k=>[]) (fun k=>k≤4∧∀ j,j < k → (lstM m j).length≤16) (fun k=>4 - k) (0);(focus ((try push_cast [iO,tN]);rfl));(focus exact ⟨by omega,fun j hj=>by omega⟩);(focus ((refine weak_fg ?_;try push_cast [iO,tN]))))
 rintro k ⟨hk,hpre⟩
 have hlast:(¬ fewB m=true → modB m=false):=fun h=>by unfold modB;rw [Bool.not_eq_true] at h;rw [h];rfl
 have h5:k=0∨k=1∨k=2∨k=3∨k=4:=by omega
 have hstep:(lstM m k).length≤16 → ∀ j,j < k+1 → (lstM m j).length≤16:=fun h j hj=>by
  rcases Nat.lt_or_ge j k with h'|h'
  ·exact hpre j h'
  ·rw [show j=k by omega];exact h
 rcases h5 with rfl|rfl|rfl|rfl|rfl
 ·push_cast [iO,tN]
  by_cases hl:m.aliases.length≤16
  ·repeat' (first|((first|refine pC ?_|refine pQC ?_|refine pU ?_);push_cast [iO,tN])|(refine pif (fun h=>?_) (fun h=>?_)<;>first|exact pN h|push_cast [iO,tN]))
   exact ⟨1,⟨by omega,hstep hl⟩,by (refine weak_fg ?_;push_cast [iO,tN]),by omega⟩
  ·have hf:=hlast (by unfold fewB;rw [decide_eq_false hl];simp)
   have hl2:(16:Int) < (m.aliases.length:Int):=by omega
   repeat' (first|((first|refine pC ?_|refine pQC ?_|refine pU ?_);push_cast [iO,tN,hl2])|(refine pif (fun h=>?_) (fun h=>?_)<;>first|exact pN h|push_cast [iO,tN,hl2]))
   (refine retK_of [] ?_;push_cast [iO,tN,hf])
 ·push_cast [iO,tN]
  by_cases hl:m.needs.length≤16
  ·repeat' (first|((first|refine pC ?_|refine pQC ?_|refine pU ?_);push_cast [iO,tN])|(refine pif (fun h=>?_) (fun h=>?_)<;>first|exact pN h|push_cast [iO,tN]))
   exact ⟨2,⟨by omega,hstep hl⟩,by (refine weak_fg ?_;push_cast [iO,tN]),by omega⟩
  ·have hf:=hlast (by unfold fewB;rw [decide_eq_false hl];simp)
   have hl2:(16:Int) < (m.needs.length:Int):=by omega
   repeat' (first|((first|refine pC ?_|refine pQC ?_|refine pU ?_);push_cast [iO,tN,hl2])|(refine pif (fun h=>?_) (fun h=>?_)<;>first|exact pN h|push_cast [iO,tN,hl2]))
   (refine retK_of [] ?_;push_cast [iO,tN,hf])
 ·push_cast [iO,tN]
  by_cases hl:m.pre.length≤16
  ·repeat' (first|((first|refine pC ?_|refine pQC ?_|refine pU ?_);push_cast [iO,tN])|(refine pif (fun h=>?_) (fun h=>?_)<;>first|exact pN h|push_cast [iO,tN]))
   exact ⟨3,⟨by omega,hstep hl⟩,by (refine weak_fg ?_;push_cast [iO,tN]),by omega⟩
  ·have hf:=hlast (by unfold fewB;rw [decide_eq_false hl];simp)
   have hl2:(16:Int) < (m.pre.length:Int):=by omega
   repeat' (first|((first|refine pC ?_|refine pQC ?_|refine pU ?_);push_cast [iO,tN,hl2])|(refine pif (fun h=>?_) (fun h=>?_)<;>first|exact pN h|push_cast [iO,tN,hl2]))
   (refine retK_of [] ?_;push_cast [iO,tN,hf])
 ·push_cast [iO,tN]
  by_cases hl:m.post.length≤16
  ·repeat' (first|((first|refine pC ?_|refine pQC ?_|refine pU ?_);push_cast [iO,tN])|(refine pif (fun h=>?_) (fun h=>?_)<;>first|exact pN h|push_cast [iO,tN]))
   exact ⟨4,⟨by omega,hstep hl⟩,by (refine weak_fg ?_;push_cast [iO,tN]),by omega⟩
  ·have hf:=hlast (by unfold fewB;rw [decide_eq_false hl];simp)
   have hl2:(16:Int) < (m.post.length:Int):=by omega
   repeat' (first|((first|refine pC ?_|refine pQC ?_|refine pU ?_);push_cast [iO,tN,hl2])|(refine pif (fun h=>?_) (fun h=>?_)<;>first|exact pN h|push_cast [iO,tN,hl2]))
   (refine retK_of [] ?_;push_cast [iO,tN,hf])
 ·have g1:m.aliases.length≤16:=hpre 0 (by omega)
  have g2:m.needs.length≤16:=hpre 1 (by omega)
  have g3:m.pre.length≤16:=hpre 2 (by omega)
  have g4:m.post.length≤16:=hpre 3 (by omega)
  have hfew:fewB m=true:=by unfold fewB;rw [decide_eq_true g1,decide_eq_true g2,decide_eq_true g3,decide_eq_true g4];rfl
  have hmod:modB m=(!(m.aliases.any fun p=>decide (globM p≠0)) && validS m.name && !((m.needs++m.pre++m.post).any fun s=>!validS s)):=by unfold modB;rw [hfew,Bool.true_and]
  have c1:=containsFuncS_pure m.aliases (by omega) 40 [] [] (fun p=>decide (globM p≠0)) ⟨by kernel_rfl,fun x hx=>kval1_pure x (hm.als x hx)⟩
  have c2:=valid_pure m.name hm.name
  have c3:=concat3_pure m.needs m.pre m.post (by omega) (by omega) (by omega)
  have c4:=containsFuncS_pure (m.needs++m.pre++m.post) (by simp only [List.length_append];omega) 44 [] [] (fun s=>!validS s) ⟨by kernel_rfl,fun x hx=>kval2_pure x (by
   rcases List.mem_append.1 hx with hx|hx
   ·rcases List.mem_append.1 hx with hx|hx
    ·exact hm.ne x hx
    ·exact hm.pr x hx
   ·exact hm.po x hx)⟩
  rw [hmod]
  obtain ⟨A1,hA1⟩:∃ A1,(m.aliases.any fun p=>decide (globM p≠0))=A1:=⟨_,rfl⟩
  obtain ⟨A2,hA2⟩:∃ A2,validS m.name=A2:=⟨_,rfl⟩
  obtain ⟨cc,hcc⟩:∃ cc,m.needs++m.pre++m.post=cc:=⟨_,rfl⟩
  rw [hcc] at c3 c4 ⊢
  obtain ⟨A3,hA3⟩:∃ A3,(cc.any fun s=>!validS s)=A3:=⟨_,rfl⟩
  have htk:=List.take_of_length_le (l:=cc.map strD) (i:=cc.length) (by simp)
  rw [hA1] at c1 ⊢
  rw [hA2] at c2 ⊢
  rw [hA3] at c4 ⊢
  push_cast [iO,tN]
  cases A1 with
  | true =>
   repeat' (first |  ((refine plc [] (c1) ?_ ?_;push_cast [iO,tN];rintro r os ⟨rfl,rfl⟩;push_cast [iO,tN]))  | ((first|refine pC ?_|refine pQC ?_|refine pU ?_);push_cast [iO,tN])|(refine pif (fun h=>?_) (fun h=>?_)<;>first|exact pN h|push_cast [iO,tN]))
   (refine retK_of [] ?_;push_cast [iO,tN])
  | false =>
   cases A2 with
   | false =>
    repeat' (first |  ((refine plc [] (c1) ?_ ?_;push_cast [iO,tN];rintro r os ⟨rfl,rfl⟩;push_cast [iO,tN]))|((refine plc [] (c2) ?_ ?_;push_cast [iO,tN];rintro r os ⟨rfl,rfl⟩;push_cast [iO,tN]))  | ((first|refine pC ?_|refine pQC ?_|refine pU ?_);push_cast [iO,tN])|(refine pif (fun h=>?_) (fun h=>?_)<;>first|exact pN h|push_cast [iO,tN]))
    (refine retK_of [] ?_;push_cast [iO,tN])
   | true =>
    repeat' (first|((refine plc [] (c1) ?_ ?_;push_cast [iO,tN,htk];rintro r os ⟨rfl,rfl⟩;push_cast [iO,tN,htk]))|((refine plc [] (c2) ?_ ?_;push_cast [iO,tN,htk];rintro r os ⟨rfl,rfl⟩;push_cast [iO,tN,htk]))|((refine plc [] (c3) ?_ ?_;push_cast [iO,tN,htk];rintro r os ⟨rfl,rfl⟩;push_cast [iO,tN,htk]))|((refine pl_call2 true [] rfl rfl (by kernel_rfl) (c4) ?_ ?_ ?_;push_cast [iO,tN,htk];(intro _ r os;rintro ⟨rfl,rfl⟩;push_cast [iO,tN,htk]);rintro r os ⟨rfl,rfl⟩;refine pl_of_pops ?_;push_cast [iO,tN,htk]))|((first|refine pC ?_|refine pQC ?_|refine pU ?_);push_cast [iO,tN,htk])|(refine pif (fun h=>?_) (fun h=>?_)<;>first|exact pN h|push_cast [iO,tN,htk]))
    (refine retK_of [] ?_;push_cast [iO,tN])
set_option maxRecDepth 20000
set_option maxRecDepth 20000
set_option maxRecDepth 20000
set_option maxRecDepth 20000
set_option maxRecDepth 20000
set_option maxRecDepth 20000
set_option maxRecDepth 20000
set_option maxRecDepth 20000
set_option maxRecDepth 20000
end Go.Proofs.YthhfpcbpiphfiaaGreatDoor
