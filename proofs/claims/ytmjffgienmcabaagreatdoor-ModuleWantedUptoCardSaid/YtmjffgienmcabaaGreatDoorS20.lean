/- What the program computes, and the plain laws of it, part 20. -/
import Derived.Test.YtmjffgienmcabaaGreatDoorS19
namespace Go.Proofs.YtmjffgienmcabaaGreatDoor
attribute [local irreducible] PL QL PWPr PCalls Weak RetK Kontr PA
open Go.RowKit
open IntWalk renaming iteOmega → iO, toNatUp → tN
set_option linter.unusedVariables false
set_option linter.unusedSimpArgs false
set_option maxRecDepth 20000
set_option maxHeartbeats 1000000 in
theorem text_pure (s:ByteArray) (hs:s.size≤9223372036854775807):PCalls Tryz.prog 99 [.c (.v (.string s))] [] fun r os=>r = .c (.v (.bool (textS s)))∧os=[]:=by
 refine pcalls_of Tryz.func99 rfl (by simp [Tryz.ntmps99]) ?_
 rw [Tryz.ntmps99,Tryz.results99]
 push_cast [iO,tN]
 have cB:CutB 7 []:=trivial
 repeat' (first|((first|refine pC ?_|refine pQC ?_|refine pU ?_);push_cast [iO,tN])|(refine pif (fun h=>?_) (fun h=>?_)<;>first|exact pN h|push_cast [iO,tN]))
 (apply pwp_loop3 (α:=Nat) 7 [] (fun k=>[(6,.c (.v (.int .i64 k)))]) (fun k=>[]) (fun k=>k≤s.size∧(s.data.toList.take k).all textB=true) (fun k=>s.size - k) (0);(focus ((try push_cast [iO,tN]);rfl));(focus exact ⟨by omega,rfl⟩);(focus ((refine weak_fg ?_;try push_cast [iO,tN]))))
 rintro k ⟨hk,ha⟩
 push_cast [iO,tN]
 by_cases hlt:k < s.size
 ·by_cases h1:((s.data.toList.getD k 0).toNat:Int) < 32
  ·have e:=all_not hlt (p:=textB) (by unfold textB;rw [decide_eq_false (by omega)];rfl)
   repeat' (first|((first|refine pC ?_|refine pQC ?_|refine pU ?_);push_cast [iO,tN,h1])|(refine pif (fun h=>?_) (fun h=>?_)<;>first|exact pN h|push_cast [iO,tN,h1]))
   (refine retK_of [] ?_;push_cast [iO,tN])
   rw [textS,e];rfl
  ·by_cases h2:(126:Int) < ((s.data.toList.getD k 0).toNat:Int)
   ·have e:=all_not hlt (p:=textB) (by unfold textB;rw [decide_eq_false (p:=(s.data.toList.getD k 0).toNat≤126) (by omega),Bool.and_false])
    repeat' (first|((first|refine pC ?_|refine pQC ?_|refine pU ?_);push_cast [iO,tN,h1,h2])|(refine pif (fun h=>?_) (fun h=>?_)<;>first|exact pN h|push_cast [iO,tN,h1,h2]))
    (refine retK_of [] ?_;push_cast [iO,tN])
    rw [textS,e];rfl
   ·have e:=all_next hlt ha (by unfold textB;rw [decide_eq_true (by omega),decide_eq_true (by omega)];rfl)
    repeat' (first|((first|refine pC ?_|refine pQC ?_|refine pU ?_);push_cast [iO,tN,h1,h2])|(refine pif (fun h=>?_) (fun h=>?_)<;>first|exact pN h|push_cast [iO,tN,h1,h2]))
    exact ⟨k+1,⟨by omega,e⟩,by (refine weak_fg ?_;push_cast [iO,tN]),by omega⟩
 ·have hk2:k=s.size:=by omega
  subst hk2
  have he:s.data.toList.take s.size=s.data.toList:=List.take_of_length_le (Nat.le_refl _)
  rw [he] at ha
  have hd:decide ((s.size:Int)≤256)=decide (s.size≤256):=decide_eq_decide.2 (by omega)
  repeat' (first|((first|refine pC ?_|refine pQC ?_|refine pU ?_);push_cast [iO,tN])|(refine pif (fun h=>?_) (fun h=>?_)<;>first|exact pN h|push_cast [iO,tN]))
  (refine retK_of [] ?_;push_cast [iO,tN])
  rw [textS,ha,Bool.true_and,← hd]
set_option maxRecDepth 20000
def parseR (p:ByteArray):PV:=.two (if globM p=0 then .c (.sl 1 (altsD ((altsM p).getD []))) else .c (.v (.slice none 0 0))) (.c (.v (.int .i64 (globM p))))
set_option maxRecDepth 20000 in
set_option maxHeartbeats 4000000 in
theorem parse_pure (p:ByteArray) (hf:p.size≤9223372036854775807):PCalls Tryz.prog 80 [.c (.v (.string p))] [] fun r os=>r=parseR p∧os=[]:=by
 have ht:=text_pure p hf
 refine pcalls_of Tryz.func80 rfl (by simp [Tryz.ntmps80]) ?_
 rw [Tryz.ntmps80,Tryz.results80]
 push_cast [-List.reduceReplicate,iO,tN]
 unfold parseR
 by_cases h1:256 < p.size
 ·have hR:globM p=21:=by unfold globM;rw [if_pos h1]
  have h1':(256:Int) < (p.size:Int):=by omega
  repeat' (first|((first|refine pG ?_|refine pQ ?_|refine pU ?_);push_cast [-List.reduceReplicate,iO,tN,h1'])|(refine pif (fun h=>?_) (fun h=>?_)<;>first|exact pN h|push_cast [-List.reduceReplicate,iO,tN,h1']))
  (refine retK_of [] ?_;push_cast [-List.reduceReplicate,iO,tN,hR])
 have h1':¬ (256:Int) < (p.size:Int):=by omega
 by_cases h2:p.data.toList.all textB=true
 case neg =>
  have h2':=Bool.eq_false_iff.2 h2
  have hR:globM p=20:=by unfold globM;rw [if_neg h1,if_pos (by rw [h2'];rfl)]
  have hts:textS p=false:=by unfold textS;rw [h2'];rfl
  rw [hts] at ht
  repeat' (first|((refine plc [] (ht) ?_ ?_;push_cast [-List.reduceReplicate,iO,tN,h1'];rintro r os ⟨rfl,rfl⟩;push_cast [-List.reduceReplicate,iO,tN,h1']))|((first|refine pG ?_|refine pQ ?_|refine pU ?_);push_cast [-List.reduceReplicate,iO,tN,h1'])|(refine pif (fun h=>?_) (fun h=>?_)<;>first|exact pN h|push_cast [-List.reduceReplicate,iO,tN,h1']))
  (refine retK_of [] ?_;push_cast [-List.reduceReplicate,iO,tN,hR])
 have hts:textS p=true:=by unfold textS;rw [h2,decide_eq_true (by omega)];rfl
 rw [hts] at ht
 have ha:=alts_pure p (by omega) (text_byt h2) fun i hi=>bset_pure p i hi (by omega) (text_byt h2)
 cases hq:altsM p with
 | none =>
  have hR:globM p=20:=by unfold globM;rw [if_neg h1,if_neg (by rw [h2];simp),hq]
  rw [hq] at ha
  repeat' (first|((refine plc [] (ht) ?_ ?_;push_cast [-List.reduceReplicate,iO,tN,h1'];rintro r os ⟨rfl,rfl⟩;push_cast [-List.reduceReplicate,iO,tN,h1']))|((refine plc [0] (ha) ?_ ?_;push_cast [-List.reduceReplicate,iO,tN,h1'];rintro r os ⟨⟨i,rfl⟩,rfl⟩;push_cast [-List.reduceReplicate,iO,tN,h1']))|((first|refine pG ?_|refine pQ ?_|refine pU ?_);push_cast [-List.reduceReplicate,iO,tN,h1'])|(refine pif (fun h=>?_) (fun h=>?_)<;>first|exact pN h|push_cast [-List.reduceReplicate,iO,tN,h1']))
  (refine retK_of [] ?_;push_cast [-List.reduceReplicate,iO,tN,hR])
 | some l =>
  have hR:globM p=0:=by unfold globM;rw [if_neg h1,if_neg (by rw [h2];simp),hq]
  rw [hq] at ha
  repeat' (first|((refine plc [] (ht) ?_ ?_;push_cast [-List.reduceReplicate,iO,tN,h1'];rintro r os ⟨rfl,rfl⟩;push_cast [-List.reduceReplicate,iO,tN,h1']))|((refine plc [0] (ha) ?_ ?_;push_cast [-List.reduceReplicate,iO,tN,h1'];rintro r os ⟨⟨i,rfl⟩,rfl⟩;push_cast [-List.reduceReplicate,iO,tN,h1']))|((first|refine pG ?_|refine pQ ?_|refine pU ?_);push_cast [-List.reduceReplicate,iO,tN,h1'])|(refine pif (fun h=>?_) (fun h=>?_)<;>first|exact pN h|push_cast [-List.reduceReplicate,iO,tN,h1']))
  (refine retK_of [] ?_;push_cast [-List.reduceReplicate,iO,tN,hR])
  rfl
set_option maxRecDepth 20000 in
set_option maxHeartbeats 4000000 in
theorem match_pure (p s:ByteArray) (hf:p.size≤9223372036854775807) (hs:s.size≤9000000000000000000):PCalls Tryz.prog 48 [.c (.v (.string p)),.c (.v (.string s))] [] fun r os=>r = .c (.v (.bool (matchM p s)))∧os=[]:=by
 have hp:=parse_pure p hf
 unfold parseR at hp
 refine pcalls_of Tryz.func48 rfl (by simp [Tryz.ntmps48]) ?_
 rw [Tryz.ntmps48,Tryz.results48]
 push_cast [-List.reduceReplicate,iO,tN]
 have cB:CutB 11 [18,19,33,34,35]:=trivial
 by_cases h0:globM p=0
 case neg =>
  rw [if_neg h0] at hp
  have hR:matchM p s=false:=by unfold matchM;rw [decide_eq_false h0];rfl
  repeat' (first|((refine plc [] (hp) ?_ ?_;push_cast [-List.reduceReplicate,iO,tN,h0];rintro r os ⟨rfl,rfl⟩;push_cast [-List.reduceReplicate,iO,tN,h0]))|((first|refine pC ?_|refine pQC ?_|refine pU ?_);push_cast [-List.reduceReplicate,iO,tN,h0])|(refine pif (fun h=>?_) (fun h=>?_)<;>first|exact pN h|push_cast [-List.reduceReplicate,iO,tN,h0]))
  (refine retK_of [] ?_;push_cast [-List.reduceReplicate,iO,tN,hR])
 rw [if_pos h0,h0] at hp
 repeat' (first |  ((refine plc [] (hp) ?_ ?_;push_cast [-List.reduceReplicate,iO,tN];rintro r os ⟨rfl,rfl⟩;push_cast [-List.reduceReplicate,iO,tN]))  | ((first|refine pC ?_|refine pQC ?_|refine pU ?_);push_cast [-List.reduceReplicate,iO,tN])|(refine pif (fun h=>?_) (fun h=>?_)<;>first|exact pN h|push_cast [-List.reduceReplicate,iO,tN]))
 (apply pwp_loop3 (α:=Nat) 11 [18,19,33,34,35] (fun k=>[(19,.c (.v (.int .i64 k)))]) (fun k=>[]) (fun k=>k≤s.size∧(s.data.toList.take k).all textB=true) (fun k=>s.size - k) (0);(focus ((try push_cast [-List.reduceReplicate,iO,tN]);rfl));(focus exact ⟨by omega,rfl⟩);(focus ((refine weak_fg ?_;try push_cast [-List.reduceReplicate,iO,tN]))))
 rintro k ⟨hk,ha⟩
 push_cast [-List.reduceReplicate,iO,tN]
 by_cases hlt:k < s.size
 ·have bad:textB (s.data.toList.getD k 0)=false → matchM p s=false:=fun hx=>by unfold matchM;rw [all_not hlt hx];simp
  by_cases h1:((s.data.toList.getD k 0).toNat:Int) < 32
  ·have hR:=bad (by unfold textB;rw [decide_eq_false (by omega)];rfl)
   repeat' (first|((first|refine pC ?_|refine pQC ?_|refine pU ?_);push_cast [-List.reduceReplicate,iO,tN,h1])|(refine pif (fun h=>?_) (fun h=>?_)<;>first|exact pN h|push_cast [-List.reduceReplicate,iO,tN,h1]))
   (refine retK_of [] ?_;push_cast [-List.reduceReplicate,iO,tN,hR])
  ·by_cases h2:(126:Int) < ((s.data.toList.getD k 0).toNat:Int)
   ·have hR:=bad (by unfold textB;rw [decide_eq_false (p:=(s.data.toList.getD k 0).toNat≤126) (by omega),Bool.and_false])
    repeat' (first|((first|refine pC ?_|refine pQC ?_|refine pU ?_);push_cast [-List.reduceReplicate,iO,tN,h1,h2])|(refine pif (fun h=>?_) (fun h=>?_)<;>first|exact pN h|push_cast [-List.reduceReplicate,iO,tN,h1,h2]))
    (refine retK_of [] ?_;push_cast [-List.reduceReplicate,iO,tN,hR])
   ·have e:=all_next hlt ha (by unfold textB;rw [decide_eq_true (by omega),decide_eq_true (by omega)];rfl)
    repeat' (first|((first|refine pC ?_|refine pQC ?_|refine pU ?_);push_cast [-List.reduceReplicate,iO,tN,h1,h2])|(refine pif (fun h=>?_) (fun h=>?_)<;>first|exact pN h|push_cast [-List.reduceReplicate,iO,tN,h1,h2]))
    exact ⟨k+1,⟨by omega,e⟩,by (refine weak_fg ?_;push_cast [-List.reduceReplicate,iO,tN]),by omega⟩
 have hk2:k=s.size:=by omega
 subst hk2
 have he:s.data.toList.take s.size=s.data.toList:=List.take_of_length_le (Nat.le_refl _)
 rw [he] at ha
 obtain ⟨l,hq⟩:∃ l,altsM p=some l:=by
  cases hq:altsM p with
  | some l=>exact ⟨l,rfl⟩
  | none =>
   unfold globM at h0
   rw [hq] at h0
   split at h0
   ·cases h0
   ·split at h0<;>cases h0
 have hok:=altsM_ok hq
 have hp256:p.size≤256:=by
  unfold globM at h0
  split at h0
  ·cases h0
  ·omega
 have hll:=altGo_len (Nat.zero_le _) (Nat.zero_le _) (show altGo p 0 [] []=some l from hq)
 have hR:matchM p s=l.any fun x=>mat x s.data.toList:=by unfold matchM;rw [decide_eq_true h0,ha,hq];rfl
 rw [hq,Option.getD_some,altsD]
 repeat' (first|((first|refine pC ?_|refine pQC ?_|refine pU ?_);push_cast [-List.reduceReplicate,iO,tN])|(refine pif (fun h=>?_) (fun h=>?_)<;>first|exact pN h|push_cast [-List.reduceReplicate,iO,tN]))
 (apply pwp_loop3 (α:=Nat) 11 [18,19,33,34,35] (fun k=>[(35,.c (.v (.int .i64 k)))]) (fun k=>[]) (fun k=>k≤l.length∧((l.take k).any fun x=>mat x s.data.toList)=false) (fun k=>l.length - k) (0);(focus ((try push_cast [-List.reduceReplicate,iO,tN]);rfl));(focus exact ⟨by omega,rfl⟩);(focus ((refine weak_fg ?_;try push_cast [-List.reduceReplicate,iO,tN]))))
 rintro k ⟨hk,hn⟩
 push_cast [-List.reduceReplicate,iO,tN]
 by_cases hlt:k < l.length
 ·have hx:=hok (l.getD k default) (by rw [getD_lt l hlt];exact List.getElem_mem _)
  have hm:=matches_pure (l.getD k default) s hx.1 (by have:=hx.2;omega) hs (text_byt ha)
  cases hv:mat (l.getD k default) s.data.toList with
  | true =>
   rw [hv] at hm
   have hR2:matchM p s=true:=by rw [hR,List.any_eq_true];exact ⟨l.getD k default,by rw [getD_lt l hlt];exact List.getElem_mem _,hv⟩
   repeat' (first |  ((refine plc [] (hm) ?_ ?_;push_cast [-List.reduceReplicate,iO,tN];rintro r os ⟨rfl,rfl⟩;push_cast [-List.reduceReplicate,iO,tN]))  | ((first|refine pC ?_|refine pQC ?_|refine pU ?_);push_cast [-List.reduceReplicate,iO,tN])|(refine pif (fun h=>?_) (fun h=>?_)<;>first|exact pN h|push_cast [-List.reduceReplicate,iO,tN]))
   (refine retK_of [] ?_;push_cast [-List.reduceReplicate,iO,tN,hR2])
  | false =>
   rw [hv] at hm
   have hn2:((l.take (k+1)).any fun x=>mat x s.data.toList)=false:=by
    rw [List.take_succ_eq_append_getElem hlt,List.any_append,hn,← getD_lt l hlt]
    simp only [List.any_cons,List.any_nil,hv];rfl
   repeat' (first |  ((refine plc [] (hm) ?_ ?_;push_cast [-List.reduceReplicate,iO,tN];rintro r os ⟨rfl,rfl⟩;push_cast [-List.reduceReplicate,iO,tN]))  | ((first|refine pC ?_|refine pQC ?_|refine pU ?_);push_cast [-List.reduceReplicate,iO,tN])|(refine pif (fun h=>?_) (fun h=>?_)<;>first|exact pN h|push_cast [-List.reduceReplicate,iO,tN]))
   exact ⟨k+1,⟨by omega,hn2⟩,by (refine weak_fg ?_;push_cast [-List.reduceReplicate,iO,tN]),by omega⟩
 ·have hk2:k=l.length:=by omega
  subst hk2
  rw [List.take_length] at hn
  rw [hn] at hR
  repeat' (first|((first|refine pC ?_|refine pQC ?_|refine pU ?_);push_cast [-List.reduceReplicate,iO,tN])|(refine pif (fun h=>?_) (fun h=>?_)<;>first|exact pN h|push_cast [-List.reduceReplicate,iO,tN]))
  (refine retK_of [] ?_;push_cast [-List.reduceReplicate,iO,tN,hR])
end Go.Proofs.YtmjffgienmcabaaGreatDoor
namespace Go.Proofs.YtmjffgienmcabaaGreatDoor
open Go.RowKit
open IntWalk renaming iteOmega → iO, toNatUp → tN
set_option linter.unusedVariables false
set_option linter.unusedSimpArgs false
def beginL:List El → List UInt8
 | []=>[]
 | e :: l=>if e.lit=0 then [] else UInt8.ofNat e.lit :: beginL l
def cpre:List UInt8 → List UInt8 → List UInt8
 | a :: l,b :: m=>if a=b then a :: cpre l m else []
 | _,_=>[]
def prefL:List (List El) → List UInt8
 | []=>[]
 | x :: r=>r.foldl (fun a y=>cpre a (beginL y)) (beginL x)
def LitOk (e:El):Prop:=e.lit≠0 → e.star=false∧∀ b:UInt8,e.has b=true → b=UInt8.ofNat e.lit
theorem begin_mat:∀ {l:List El} {s:List UInt8},(∀ e ∈ l,LitOk e) → mat l s=true → beginL l <+: s
 | [],s,_,_=>List.nil_prefix
 | e :: l,s,hl,h=>by
  unfold beginL
  split
  ·exact List.nil_prefix
  ·rename_i h0
   obtain ⟨h1,h2⟩:=hl e (by simp) h0
   cases s with
   | nil=>rw [mat_end h1] at h;cases h
   | cons b s =>
    rw [mat_one h1,Bool.and_eq_true] at h
    rw [← h2 b h.1]
    exact List.cons_prefix_cons.2 ⟨rfl,begin_mat (fun x hx=>hl x (by simp [hx])) h.2⟩
theorem cpre_left:∀ a b:List UInt8,cpre a b <+: a
 | [],[]=>List.nil_prefix
 | [],_ :: _=>List.nil_prefix
 | _ :: _,[]=>List.nil_prefix
 | a :: l,b :: m=>by
  unfold cpre
  split
  ·exact List.cons_prefix_cons.2 ⟨rfl,cpre_left l m⟩
  ·exact List.nil_prefix
theorem cpre_right:∀ a b:List UInt8,cpre a b <+: b
 | [],[]=>List.nil_prefix
 | [],_ :: _=>List.nil_prefix
 | _ :: _,[]=>List.nil_prefix
 | a :: l,b :: m=>by
  unfold cpre
  split
  ·rename_i e
   subst e
   exact List.cons_prefix_cons.2 ⟨rfl,cpre_right l m⟩
  ·exact List.nil_prefix
theorem foldl_cpre:∀ (r:List (List El)) (a:List UInt8),(r.foldl (fun a y=>cpre a (beginL y)) a <+: a)∧∀ y ∈ r,r.foldl (fun a y=>cpre a (beginL y)) a <+: beginL y
 | [],a=>⟨List.prefix_refl a,fun y hy=>by cases hy⟩
 | x :: r,a=>by
  obtain ⟨h1,h2⟩:=foldl_cpre r (cpre a (beginL x))
  refine ⟨h1.trans (cpre_left _ _),fun y hy=>?_⟩
  rcases List.mem_cons.1 hy with rfl|hy
  ·exact h1.trans (cpre_right _ _)
  ·exact h2 y hy
theorem prefL_le {l:List (List El)} {x:List El} (h:x ∈ l):prefL l <+: beginL x:=by
 cases l with
 | nil=>cases h
 | cons y r =>
  rcases List.mem_cons.1 h with rfl|h
  ·exact (foldl_cpre r _).1
  ·exact (foldl_cpre r _).2 x h
theorem litOk_zero {e:El} (h:e.lit=0):LitOk e:=fun h0=>absurd h h0
theorem litOk_lit (b:UInt8):LitOk (litEl b):=fun h0=>⟨rfl,fun c hc=>by
 unfold El.has litEl at hc
 simp only at hc
 have:UInt8.ofNat b.toNat=b:=by simp
 show c=UInt8.ofNat b.toNat
 rw [this]
 by_cases e:c.toNat=b.toNat
 ·exact UInt8.toNat_inj.1 e
 ·unfold noneS at hc
  rw [List.getD_eq_getElem?_getD,List.getElem?_set_ne (fun h=>e h.symm),List.getElem?_replicate] at hc
  split at hc<;>simp at hc⟩
theorem altGo_lit {p:ByteArray} {i:Nat} {l:List (List El)} {x:List El} {r:List (List El)} (h:altGo p i l x=some r) (hl:∀ y ∈ l,∀ e ∈ y,LitOk e) (hx:∀ e ∈ x,LitOk e):∀ y ∈ r,∀ e ∈ y,LitOk e:=by
 have snoc:∀ {x:List El} {e:El},(∀ e ∈ x,LitOk e) → LitOk e → ∀ e' ∈ x++[e],LitOk e':=fun hx he e' h=>by
  rcases List.mem_append.1 h with h|h
  ·exact hx e' h
  ·rw [List.mem_singleton.1 h];exact he
 have snoc2:∀ {l:List (List El)} {x:List El},(∀ y ∈ l,∀ e ∈ y,LitOk e) → (∀ e ∈ x,LitOk e) → ∀ y ∈ l++[x],∀ e ∈ y,LitOk e:=fun hl hx y h=>by
  rcases List.mem_append.1 h with h|h
  ·exact hl y h
  ·rw [List.mem_singleton.1 h];exact hx
 fun_induction altGo p i l x<;>first
  | (cases h;done)
  | (injection h with h;subst h;exact snoc2 hl hx)
  | (rename_i ih;exact ih h (snoc2 hl hx) (fun e he=>by cases he))
  | (rename_i ih;exact ih h hl (snoc hx (litOk_zero rfl)))
  | (rename_i ih;exact ih h hl (snoc hx (litOk_lit _)))
  | skip
theorem altsM_lit {p:ByteArray} {r:List (List El)} (h:altsM p=some r):∀ y ∈ r,∀ e ∈ y,LitOk e:=altGo_lit h (fun y hy=>by cases hy) (fun e he=>by cases he)
def prefM (p:ByteArray):List UInt8:=match altsM p with|none=>[]|some l=>prefL l
theorem match_pref {p s:ByteArray} (h:matchM p s=true):globM p=0∧prefM p <+: s.data.toList:=by
 unfold matchM at h
 rw [Bool.and_eq_true,Bool.and_eq_true,decide_eq_true_eq] at h
 refine ⟨h.1.1,?_⟩
 have h2:=h.2
 unfold prefM
 cases e:altsM p with
 | none=>exact List.nil_prefix
 | some l =>
  rw [e] at h2
  simp only at h2 ⊢
  obtain ⟨x,hx,hm⟩:=List.any_eq_true.1 h2
  exact (prefL_le hx).trans (begin_mat (altsM_lit e x hx) hm)
structure Priv (Γ:G) (w:World) (B:Nat → Prop):Prop where
 lt:∀ b,B b → b < w.heap.size
 imm:∀ b,B b → ¬ Γ.I b
 own:∀ b,B b → ¬ Mine Γ b
theorem Priv.grow {p:Nat} {Γ Γ':G} {w w':World} {B:Nat → Prop} (h:Priv Γ w B) (hg:Grow p Γ w Γ' w'):Priv Γ' w' B∧∀ b,B b → w'.heap[b]? = w.heap[b]?:=by
 have hz:=hg.ext.size
 refine ⟨⟨fun b hb=>Nat.lt_of_lt_of_le (h.lt b hb) hz,fun b hb hi=>?_,fun b hb hm=>?_⟩,fun b hb=>hg.ext.block b (h.lt b hb) (h.own b hb)⟩
 ·rcases hg.imm b hi with h1|h1|h1
  ·exact h.imm b hb h1
  ·exact h.own b hb h1
  ·have:=h.lt b hb;omega
 ·obtain ⟨k,h1,h2,rfl⟩:=hm
  rcases hg.new k h1 h2 with h3|h3
  ·exact h.own _ hb h3
  ·have:=h.lt _ hb;omega
theorem Priv.sub {Γ:G} {w:World} {B B':Nat → Prop} (h:Priv Γ w B) (hs:∀ b,B' b → B b):Priv Γ w B':=⟨fun b hb=>h.lt b (hs b hb),fun b hb=>h.imm b (hs b hb),fun b hb=>h.own b (hs b hb)⟩
theorem MemOk.show_ {Γ:G} {os:List Ob} {w:World} (hm:MemOk Γ os w) (o:Ob) (b c:Nat) (hro:RO w (Γ.push b c) Γ.n o) (hb:Priv Γ w (· = b)):MemOk (Γ.push b c) (os++[o]) w:=by
 have hag:=push_agree Γ b c
 have hS:=Same.refl w
 have hbi:=hb.imm b rfl
 have hbo:=hb.own b rfl
 refine ⟨by simp [G.push,hm.n],fun k o' ho=>?_,fun k k' hk hk' hc hc' he=>?_,fun k hk hc=>?_,fun b' hb'=>hm.lt b' hb',hm.pins (hS.stay Γ.I)⟩
 ·rcases Nat.lt_or_ge k os.length with hlt|hge
  ·rw [List.getElem?_append_left hlt] at ho
   have hk:k < Γ.n:=by rw [hm.n];exact hlt
   exact (hm.ob k o' ho).stay (hS.stay Γ.I) hag hk fun hc=>rfl
  ·rw [List.getElem?_append_right hge] at ho
   have:k=os.length:=by
    have:=(List.getElem?_eq_some_iff.1 ho).1
    simp at this
    omega
   subst this
   simp at ho
   subst ho
   rw [← hm.n]
   exact hro
 ·have hk1:k < Γ.n+1:=hk
  have hk2:k' < Γ.n+1:=hk'
  by_cases e1:k=Γ.n<;>by_cases e2:k'=Γ.n
  ·omega
  ·subst e1
   simp only [G.push,upd_same,upd_ne _ _ e2] at he hc hc'
   exact absurd ⟨k',by omega,hc',he.symm⟩ hbo
  ·subst e2
   simp only [G.push,upd_same,upd_ne _ _ e1] at he hc hc'
   exact absurd ⟨k,by omega,hc,he⟩ hbo
  ·simp only [G.push,upd_ne _ _ e1,upd_ne _ _ e2] at he hc hc'
   exact hm.sep k k' (by omega) (by omega) hc hc' he
 ·have hk1:k < Γ.n+1:=hk
  by_cases e1:k=Γ.n
  ·subst e1
   simp only [G.push,upd_same] at hc ⊢
   exact hbi
  ·simp only [G.push,upd_ne _ _ e1] at hc ⊢
   exact hm.off k (by omega) hc
theorem grow_show {p:Nat} {Γ0 Γ:G} {w0 w:World} (hg:Grow p Γ0 w0 Γ w) (b c:Nat) (hb:Mine Γ0 b∨w0.heap.size≤b) (hp:p≤Γ.n):Grow p Γ0 w0 (Γ.push b c) w:=by
 refine ⟨hg.ext,hg.sub,fun k hk hc=>?_,hg.imm,fun k hk=>?_⟩
 ·have hk1:k < Γ.n+1:=hk
  by_cases e1:k=Γ.n
  ·subst e1
   simp only [G.push,upd_same] at hc ⊢
   exact hb
  ·simp only [G.push,upd_ne _ _ e1] at hc ⊢
   exact hg.new k (by omega) hc
 ·have h1:(Γ.push b c).β k=Γ.β k:=upd_ne _ _ (by omega)
  have h2:(Γ.push b c).cap k=Γ.cap k:=upd_ne _ _ (by omega)
  rw [h1,h2]
  exact hg.keep k hk
def G.imms (Γ:G) (B:Nat → Prop):G:=⟨Γ.n,Γ.β,Γ.cap,fun b=>Γ.I b∨B b⟩
theorem imms_stay (Γ:G) (B:Nat → Prop) (w:World):Stay w Γ.I w (Γ.imms B).I:=⟨Nat.le_refl _,fun _ _ _=>rfl,fun _ h=>.inl h⟩
theorem MemOk.imms {Γ:G} {os:List Ob} {w:World} (hm:MemOk Γ os w) {B:Nat → Prop} (hB:Priv Γ w B):MemOk (Γ.imms B) os w:=by
 have hs:=imms_stay Γ B w
 refine ⟨hm.n,fun k o ho=>?_,hm.sep,fun k hk hc hI=>?_,fun b hb=>?_,hm.pins hs⟩
 ·have hk:k < Γ.n:=by rw [hm.n];exact (List.getElem?_eq_some_iff.1 ho).1
  exact (hm.ob k o ho).stay hs (fun j hj=>⟨hj,rfl,rfl⟩) hk fun hc=>rfl
 ·rcases hI with hI|hI
  ·exact hm.off k hk hc hI
  ·exact hB.own _ hI ⟨k,hk,hc,rfl⟩
 ·rcases hb with hb|hb
  ·exact hm.lt b hb
  ·exact hB.lt b hb
theorem grow_imms {p:Nat} {Γ0 Γ:G} {w0 w:World} (hg:Grow p Γ0 w0 Γ w) {B:Nat → Prop} (hB:∀ b,B b → Mine Γ0 b∨w0.heap.size≤b):Grow p Γ0 w0 (Γ.imms B) w:=by
 refine ⟨hg.ext,fun b hb=>.inl (hg.sub b hb),hg.new,fun b hb=>?_,hg.keep⟩
 rcases hb with hb|hb
 ·exact hg.imm b hb
 ·exact .inr (hB b hb)
theorem offm_push {Γ:G} {b c D:Nat} (h:OffM Γ D) (hb:D≠b):OffM (Γ.push b c) D:=by
 refine ⟨h.1,fun k hk hc e=>?_⟩
 have hk1:k < Γ.n+1:=hk
 by_cases e1:k=Γ.n
 ·subst e1
  simp only [G.push,upd_same] at e
  exact hb e.symm
 ·simp only [G.push,upd_ne _ _ e1] at hc e
  exact h.2 k (by omega) hc e
theorem offm_imms {Γ:G} {B:Nat → Prop} {D:Nat} (h:OffM Γ D) (hb:¬ B D):OffM (Γ.imms B) D:=⟨fun hI=>hI.elim h.1 hb,h.2⟩
structure HE where
 key:MK
 blk:Nat
 cap:Nat
 rows:List (List D)
def HE.val (h:HE):Value:=.slice (some ⟨h.blk,0,none⟩) h.rows.length h.cap
structure HArr (w:World) (I:Nat → Prop) (el:TypeId) (sz:Nat) (h:HE):Prop where
 arr:∃ cur:Array Value,Blk w h.blk el cur∧cur.size=h.cap * sz∧All2 (RD w I) h.rows.flatten (cur.toList.take (h.rows.length * sz))
 le:h.rows.length≤h.cap
 max:h.cap≤maxLen
 wid:∀ r ∈ h.rows,r.length=sz
structure HMap (w:World) (I:Nat → Prop) (kk:Option IntKind) (M:Nat) (el:TypeId) (sz:Nat) (hs:List HE) (ms:List MapEntry) (clock:Nat):Prop where
 map:w.heap[M]? = some (.map ms.toArray clock)
 rows:All2 (fun h m=>m.key=h.key.v∧m.val=h.val) hs ms
 kind:∀ h ∈ hs,h.key.kind=kk
 nodup:(hs.map HE.key).Nodup
 born:(ms.map MapEntry.born).Pairwise (· < ·)
 clock:∀ b ∈ ms.map MapEntry.born,b < clock
 arr:∀ h ∈ hs,HArr w I el sz h
 sep:(M :: hs.map HE.blk).Nodup
def hidB (M:Nat) (hs:List HE) (b:Nat):Prop:=b=M∨∃ h ∈ hs,h.blk=b
theorem HArr.stay {w w':World} {I I':Nat → Prop} {el:TypeId} {sz:Nat} {h:HE} (hh:HArr w I el sz h) (hs:Stay w I w' I') (hb:w'.heap[h.blk]? = w.heap[h.blk]?):HArr w' I' el sz h:=by
 obtain ⟨cur,h1,h2,h3⟩:=hh.arr
 exact ⟨⟨cur,by unfold Blk at *;rw [hb];exact h1,h2,h3.mono fun _ _=>RD.stay hs _ _⟩,hh.le,hh.max,hh.wid⟩
theorem HMap.stay {w w':World} {I I':Nat → Prop} {kk:Option IntKind} {M:Nat} {el:TypeId} {sz:Nat} {hs:List HE} {ms:List MapEntry} {clock:Nat} (h:HMap w I kk M el sz hs ms clock) (hst:Stay w I w' I') (hb:∀ b,hidB M hs b → w'.heap[b]? = w.heap[b]?):HMap w' I' kk M el sz hs ms clock :=
 ⟨by rw [hb M (.inl rfl)];exact h.map,h.rows,h.kind,h.nodup,h.born,h.clock,fun e he=>(h.arr e he).stay hst (hb _ (.inr ⟨e,he,rfl⟩)),h.sep⟩
theorem HArr.data {w:World} {I:Nat → Prop} {el:TypeId} {sz:Nat} {h:HE} (hh:HArr w I el sz h) (hI:I h.blk):RD w I (.sl sz h.rows) h.val:=by
 obtain ⟨cur,b1,b2,b3⟩:=hh.arr
 have hle:=hh.le
 rw [rd_sl]
 refine ⟨_,h.cap,cur.toList.take (h.rows.length * sz),rfl,hle,⟨?_,fun _=>⟨_,0,rfl,hI,b1.lt,fun i u hu=>?_⟩⟩,hh.wid,b3⟩
 ·rw [List.length_take,Array.length_toList,b2]
  exact Nat.min_eq_left (Nat.mul_le_mul_right _ hle)
 ·rw [b1.cell,Nat.zero_add,← Array.getElem?_toList]
  rw [List.getElem?_take] at hu
  split at hu
  ·exact hu
  ·cases hu
def HE.row (sz:Nat) (h:HE):MK × List D:=(h.key,[.sl sz h.rows])
theorem all2_row {w:World} {I:Nat → Prop} {sz:Nat}:∀ {hs:List HE} {ms:List MapEntry},All2 (fun h m=>m.key=h.key.v∧m.val=h.val) hs ms → (∀ h ∈ hs,RD w I (.sl sz h.rows) h.val) → All2 (fun (e:MK × List D) (m:MapEntry)=>m.key=e.1.v∧RV w I false e.2 m.val) (hs.map (HE.row sz)) ms
 | [],[],_,_=>trivial
 | h :: hs,m :: ms,ha,hd=>⟨⟨ha.1.1,[m.val],⟨by rw [ha.1.2];exact hd h (by simp),trivial⟩,rfl⟩,all2_row ha.2 fun x hx=>hd x (by simp [hx])⟩
 | [],_ :: _,ha,_=>ha.elim
 | _ :: _,[],ha,_=>ha.elim
theorem HMap.rm {w:World} {I:Nat → Prop} {kk:Option IntKind} {M:Nat} {el:TypeId} {sz:Nat} {hs:List HE} {ms:List MapEntry} {clock:Nat} (h:HMap w I kk M el sz hs ms clock) (hI:∀ e ∈ hs,I e.blk):RM w I kk false (hs.map (HE.row sz)) ms clock:=by
 refine ⟨all2_row h.rows fun e he=>(h.arr e he).data (hI e he),fun e he=>?_,?_,h.born,h.clock⟩
 ·obtain ⟨x,hx,rfl⟩:=List.mem_map.1 he
  exact h.kind x hx
 ·have:(hs.map (HE.row sz)).map (·.1)=hs.map HE.key:=by rw [List.map_map];rfl
  rw [this]
  exact h.nodup
theorem hid_show {N p:Nat} {Γ Γ0:G} {s:S} {a:Act} {w w0:World} {kk:Option IntKind} {M Bx:Nat} {el ty:TypeId} {sz:Nat} {hs:List HE} {ms:List MapEntry} {clock:Nat} (hA:Stands N p Γ s a w) (hH:HMap w Γ.I kk M el sz hs ms clock)
  (hbx:Blk w Bx ty #[.map (some M)]) (hB:Priv Γ w fun b=>b=Bx∨hidB M hs b) (hne:Bx≠M) (hne2:∀ h ∈ hs,h.blk≠Bx) (hg:Grow p Γ0 w0 Γ w) (hnew:∀ b,b=Bx∨hidB M hs b → Mine Γ0 b∨w0.heap.size≤b)
  {i:Nat} (hi:s.get i=some (.c (.v (.pointer (some ⟨Bx,0,none⟩))))) :
  ∃ Γ',Stands N p Γ' ⟨(i,.c (.ptr (s.o.length+1) 0)) :: s.t,s.o++[.map kk false (hs.map (HE.row sz))]++[.box ty [.mp s.o.length]]⟩ a w∧Grow p Γ0 w0 Γ' w∧∀ D,OffM Γ D → D≠Bx → ¬ hidB M hs D → OffM Γ' D:=by
 have hn:=hA.inv.m.n
 have hMs:∀ h ∈ hs,h.blk≠M:=fun h hh e=>by
  have:=(List.nodup_cons.1 hH.sep).1
  exact this (List.mem_map.2 ⟨h,hh,e⟩)
 obtain ⟨A,hAd⟩:∃ A:Nat → Prop,A=fun b=>∃ h ∈ hs,h.blk=b:=⟨_,rfl⟩
 have hBA:Priv Γ w A:=hB.sub fun b hb=>by rw [hAd] at hb;exact .inr (.inr hb)
 have m1:=hA.inv.m.imms hBA
 have s1:=imms_stay Γ A w
 have g1:=grow_imms hg (B:=A) fun b hb=>hnew b (by rw [hAd] at hb;exact .inr (.inr hb))
 have hH1:=hH.stay s1 (fun _ _=>rfl)
 have hrm:=hH1.rm fun e he=>.inr (by rw [hAd];exact ⟨e,he,rfl⟩)
 have p1:Priv (Γ.imms A) w fun b=>b=M∨b=Bx:=⟨fun b hb=>hB.lt b (by rcases hb with rfl|rfl;exact .inr (.inl rfl);exact .inl rfl),fun b hb hI=>by
   rcases hI with hI|hI
   ·exact hB.imm b (by rcases hb with rfl|rfl;exact .inr (.inl rfl);exact .inl rfl) hI
   ·rw [hAd] at hI
    obtain ⟨h,hh,e⟩:=hI
    rcases hb with rfl|rfl
    ·exact hMs h hh e
    ·exact hne2 h hh e,
  fun b hb hm=>hB.own b (by rcases hb with rfl|rfl;exact .inr (.inl rfl);exact .inl rfl) hm⟩
 obtain ⟨Γ1,hΓ1⟩:∃ Γ1,Γ1=Γ.imms A:=⟨_,rfl⟩
 rw [← hΓ1] at m1 g1 hrm p1
 have n1:Γ1.n=s.o.length:=m1.n
 have m2:=m1.show_ (.map kk false (hs.map (HE.row sz))) M 1 ⟨by simp [G.push,upd_same],ms.toArray,clock,by simp only [G.push,upd_same];exact hH.map,by
  have e:ms.toArray.toList=ms:=by simp
  rw [e]
  exact hrm⟩ (p1.sub fun b hb=>.inl hb)
 have g2:=grow_show g1 M 1 (hnew M (.inr (.inl rfl))) (by rw [n1,← hn];exact hA.le)
 obtain ⟨Γ2,hΓ2⟩:∃ Γ2,Γ2=Γ1.push M 1:=⟨_,rfl⟩
 have n2:Γ2.n=s.o.length+1:=by rw [hΓ2];simp [G.push,n1]
 have c2:Γ2.β s.o.length=M:=by rw [hΓ2,← n1];exact upd_same _ _ _
 have p2:Priv Γ2 w (· = Bx):=⟨fun b hb=>p1.lt b (.inr hb),fun b hb hI=>p1.imm b (.inr hb) (by rw [hΓ2] at hI;exact hI),fun b hb hm=>by
  obtain ⟨k,h1,h2,h3⟩:=hm
  rw [hΓ2] at h1 h2 h3
  have hk1:k < Γ1.n+1:=h1
  by_cases e1:k=Γ1.n
  ·subst e1
   simp only [G.push,upd_same] at h3
   exact hne (hb.symm.trans h3.symm)
  ·simp only [G.push,upd_ne _ _ e1] at h2 h3
   exact p1.own b (.inr hb) ⟨k,by omega,h2,h3⟩⟩
 rw [← hΓ2] at m2 g2
 have m3:=m2.show_ (.box ty [.mp s.o.length]) Bx 1 ⟨by simp [G.push,upd_same],[.map (some M)],by simp only [G.push,upd_same];exact hbx,⟨⟨by simp [G.push,n2];omega,by
   show Value.map (some M) = .map (some ((Γ2.push Bx 1).β s.o.length))
   have:(Γ2.push Bx 1).β s.o.length=Γ2.β s.o.length:=upd_ne _ _ (by omega)
   rw [this,c2]⟩,trivial⟩,.inr (by simp [G.push,upd_same])⟩ p2
 have g3:=grow_show g2 Bx 1 (hnew Bx (.inl rfl)) (by rw [n2];have:=hA.le;omega)
 have a3:∀ j,j < Γ.n → Agree Γ (Γ2.push Bx 1) j:=fun j hj=>by
  have e1:(Γ2.push Bx 1).β j=Γ.β j:=by
   have x1:(Γ2.push Bx 1).β j=Γ2.β j:=upd_ne _ _ (by omega)
   have x2:Γ2.β j=Γ1.β j:=by rw [hΓ2];exact upd_ne _ _ (by omega)
   rw [x1,x2,hΓ1];rfl
  have e2:(Γ2.push Bx 1).cap j=Γ.cap j:=by
   have x1:(Γ2.push Bx 1).cap j=Γ2.cap j:=upd_ne _ _ (by omega)
   have x2:Γ2.cap j=Γ1.cap j:=by rw [hΓ2];exact upd_ne _ _ (by omega)
   rw [x1,x2,hΓ1];rfl
  exact ⟨by simp [G.push,n2];omega,e1,e2⟩
 have s3:Stay w Γ.I w (Γ2.push Bx 1).I:=by rw [hΓ2,hΓ1];exact s1
 have hI3:=hA.inv.heap m3 s3 a3
 refine ⟨Γ2.push Bx 1,⟨⟨hI3.size,hI3.defers,fun j q hq=>?_,m3⟩,by simp [G.push,n2];have:=hA.le;omega⟩,g3,fun D h1 h2 h3=>offm_push (by rw [hΓ2,hΓ1];exact offm_push (offm_imms h1 fun hm=>by rw [hAd] at hm;exact h3 (.inr hm)) fun e=>h3 (.inl e)) h2⟩
 simp only [S.get,look] at hq
 split at hq
 ·rename_i e
  subst e
  cases hq
  obtain ⟨h1,h2,_⟩:=hA.inv.t j _ hi
  refine ⟨h1,by simp [G.push,n2],?_⟩
  have:(Γ2.push Bx 1).β (s.o.length+1)=Bx:=by rw [← n2];exact upd_same _ _ _
  rw [this]
  exact h2
 ·exact hI3.t j q hq
theorem hfind {kk:Option IntKind} {key:MK} (hk:key.kind=kk):∀ (hs:List HE) (ms:List MapEntry) (i:Nat),
  All2 (fun h m=>m.key=h.key.v∧m.val=h.val) hs ms → (∀ h ∈ hs,h.key.kind=kk) →
  (key ∉ hs.map HE.key∧Instr.findNow (descOf kk) key.v ms i=some none) ∨
  ∃ j h m,hs[j]? = some h∧ms[j]? = some m∧h.key=key∧m.key=key.v∧Instr.findNow (descOf kk) key.v ms i=some (some (i+j,h.val))
 | [],ms,i,h,_=>by
  rw [All2.nil_l] at h
  subst h
  exact .inl ⟨by simp,rfl⟩
 | x :: es,ms,i,h,hkk=>by
  obtain ⟨m,ms',rfl,⟨h1,h2⟩,h3⟩:=All2.cons_l.1 h
  have hs:=mk_same hk (hkk x (by simp))
  rw [← h1] at hs
  by_cases e:key=x.key
  ·refine .inr ⟨0,x,m,rfl,rfl,e.symm,by rw [h1,e],?_⟩
   rw [decide_eq_true e] at hs
   simp [Instr.findNow,hs,h2]
  ·have hs':Instr.sameNow (descOf kk) key.v m.key=some false:=by rw [hs];simp [e]
   rcases hfind hk es ms' (i+1) h3 (fun e he=>hkk e (by simp [he])) with ⟨g1,g2⟩|⟨j,h0,m0,g1,g2,g3,g4,g5⟩
   ·refine .inl ⟨by simpa [e] using g1,?_⟩
    simp [Instr.findNow,hs',g2]
   ·refine .inr ⟨j+1,h0,m0,by simpa using g1,by simpa using g2,g3,g4,?_⟩
    simp [Instr.findNow,hs',g5]
    omega
theorem harr_of {w:World} {I:Nat → Prop} {el:TypeId} {sz n:Nat} {v:Value} {xs:List Value} (h:w.ownsRow 0 el sz v n xs) (hn:0 < n) (hsz:0 < sz) (key:MK) {rows:List (List D)} (hl:rows.length=n) (hw:∀ r ∈ rows,r.length=sz) (hd:All2 (RD w I) rows.flatten xs) :
  ∃ h':HE,v=h'.val∧h'.key=key∧h'.rows=rows∧HArr w I el sz h'∧v.ownBlock=some h'.blk:=by
 obtain ⟨hxl,h2⟩:=h
 rcases h2 with ⟨rfl,rfl⟩|⟨g,cap,cur,rfl,hb,hg,hnc,hc,hs,hx⟩
 ·omega
 ·subst hl
  refine ⟨⟨key,g,cap,rows⟩,rfl,rfl,rfl,⟨⟨cur,hg,hs,?_⟩,hnc,hc,hw⟩,rfl⟩
  show All2 (RD w I) rows.flatten (cur.toList.take (rows.length * sz))
  rw [hx]
  exact hd
theorem hid_append {P:Program} {w:World} {I:Nat → Prop} {t ty el:TypeId} {sz bytes:Nat} (hT:SlT P t el sz bytes) {h:HE} (hh:HArr w I el sz h) {R:Nat → Prop} {A:Option Addr} {c:Nat} {news:List Value} {r:List D} (hr:Rd w R sz A 1 news)
  (hd:All2 (RD w I) r news) (hrl:r.length=sz) (hI:¬ I h.blk) (hlt:∀ b,I b → b < w.heap.size) (hmax:h.rows.length+1≤maxLen) (hby:(h.rows.length+1) * bytes≤140737488355328) :
  ∃ (h':HE) (w':World),(Builtin.append_ #[t,t] ty #[h.val,.slice A 1 c]).run P w = .ok h'.val w'∧h'.key=h.key∧h'.rows=h.rows++[r]∧HArr w' I el sz h'∧Ext (fun k=>k=h.blk) w w'∧(h'.blk=h.blk∨h'.blk=w.heap.size):=by
 obtain ⟨cur,b1,b2,b3⟩:=hh.arr
 have ho:w.ownsRow 0 el sz h.val h.rows.length (cur.toList.take (h.rows.length * sz)):=own_blk b1 (Nat.zero_le _) b2 hh.le hh.max
 have h1:∀ u ∈ news,u.oneCell'=true:=fun u hu=>by
  obtain ⟨i,hi⟩:=List.mem_iff_getElem?.1 hu
  have hl:=hd.length
  obtain ⟨d,hd1,hd2⟩:∃ d,r[i]? = some d∧RD w I d u:=by
   have hil:i < r.length:=by rw [hl];exact (List.getElem?_eq_some_iff.1 hi).1
   obtain ⟨u',hu',hR⟩:=hd.get i r[i] (List.getElem?_eq_getElem hil)
   rw [hi] at hu'
   cases hu'
   exact ⟨r[i],List.getElem?_eq_getElem hil,hR⟩
  exact hd2.one
 obtain ⟨v',w',g1,g2,g3,g4⟩:=run_append_rd w 0 t ty el sz bytes hT h.val h.rows.length _ ho R A 1 c news hr h1 hmax hby (Nat.zero_le _)
 have hE:Ext (fun k=>k=h.blk) w w':=g3.mono fun k hk=>by simpa [HE.val,Value.ownBlock] using hk.symm
 have hst:Stay w I w' I:=⟨hE.size,fun b hb hl=>hE.block b hl fun e=>hI (e ▸ hb),fun _ h=>h⟩
 obtain ⟨h',e1,e2,e3,e4,e5⟩:=harr_of (I:=I) g2 (by omega) hT.pos h.key (rows:=h.rows++[r]) (by simp) (fun x hx=>by
  rcases List.mem_append.1 hx with hx|hx
  ·exact hh.wid x hx
  ·rw [List.mem_singleton.1 hx];exact hrl) (by
  rw [List.flatten_append]
  simp only [List.flatten_cons,List.flatten_nil,List.append_nil]
  exact (b3.append hd).mono fun _ _=>RD.stay hst _ _)
 subst e1
 refine ⟨h',w',g1,e2,e3,e4,hE,?_⟩
 rcases g4 with g4|g4
 ·rw [e5] at g4
  have:some h'.blk=some h.blk:=by rw [g4];rfl
  exact .inl (Option.some.inj this)
 ·rw [e5] at g4
  exact .inr (Option.some.inj g4)
theorem hid_append0 {P:Program} {w:World} {I:Nat → Prop} {t ty el:TypeId} {sz bytes:Nat} (hT:SlT P t el sz bytes) (key:MK) {R:Nat → Prop} {A:Option Addr} {c:Nat} {news:List Value} {r:List D} (hr:Rd w R sz A 1 news)
  (hd:All2 (RD w I) r news) (hrl:r.length=sz) (hlt:∀ b,I b → b < w.heap.size) (hby:bytes≤140737488355328) :
  ∃ (h':HE) (w':World),(Builtin.append_ #[t,t] ty #[.slice none 0 0,.slice A 1 c]).run P w = .ok h'.val w'∧h'.key=key∧h'.rows=[r]∧HArr w' I el sz h'∧Ext No w w'∧h'.blk=w.heap.size:=by
 have h1:∀ u ∈ news,u.oneCell'=true:=fun u hu=>by
  obtain ⟨i,hi⟩:=List.mem_iff_getElem?.1 hu
  have hl:=hd.length
  have hil:i < r.length:=by rw [hl];exact (List.getElem?_eq_some_iff.1 hi).1
  obtain ⟨u',hu',hR⟩:=hd.get i r[i] (List.getElem?_eq_getElem hil)
  rw [hi] at hu'
  cases hu'
  exact hR.one
 obtain ⟨v',w',g1,g2,g3,g4⟩:=run_append_rd w 0 t ty el sz bytes hT (.slice none 0 0) 0 [] (own_nil w 0 el sz) R A 1 c news hr h1 (by simp [maxLen]) (by simpa using hby) (Nat.zero_le _)
 have hE:Ext No w w':=g3.mono fun k hk=>by simp [Value.ownBlock] at hk
 have hst:Stay w I w' I:=⟨hE.size,fun b hb hl=>hE.block b hl fun e=>e,fun _ h=>h⟩
 obtain ⟨h',e1,e2,e3,e4,e5⟩:=harr_of (I:=I) g2 (by omega) hT.pos key (rows:=[r]) (by simp) (fun x hx=>by rw [List.mem_singleton.1 hx];exact hrl) (by
  simp only [List.flatten_cons,List.flatten_nil,List.append_nil,List.nil_append]
  exact hd.mono fun _ _=>RD.stay hst _ _)
 subst e1
 refine ⟨h',w',g1,e2,e3,e4,hE,?_⟩
 rcases g4 with g4|g4
 ·rw [e5] at g4;simp [Value.ownBlock] at g4
 ·rw [e5] at g4
  exact Option.some.inj g4
end Go.Proofs.YtmjffgienmcabaaGreatDoor
