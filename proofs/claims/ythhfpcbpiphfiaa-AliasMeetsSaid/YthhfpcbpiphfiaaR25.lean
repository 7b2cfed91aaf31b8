/- What the program computes, and the plain laws of it, part 25. -/
import Derived.Lib.IndexAny
import Derived.WideKeyEntry
import Derived.Test.YthhfpcbpiphfiaaR22
import Derived.Test.YthhfpcbpiphfiaaR24
namespace Go.Proofs.Ythhfpcbpiphfiaa
attribute [local irreducible] PL QL PWPr PCalls Weak RetK Kontr PA
open Go.RowKit
open IntWalk renaming iteOmega → iO, toNatUp → tN
set_option linter.unusedVariables false
set_option linter.unusedSimpArgs false
set_option maxRecDepth 20000
set_option maxHeartbeats 1000000 in
theorem text_pure (s:ByteArray) (hs:s.size≤9223372036854775807):PCalls Try.prog 43 [.c (.v (.string s))] [] fun r os=>r = .c (.v (.bool (textS s)))∧os=[]:=by
 refine pcalls_of Try.func43 rfl (by simp [Try.ntmps43]) ?_
 rw [Try.ntmps43,Try.results43]
 push_cast [iO,tN]
 have cB:CutB 7 []:=trivial
 repeat' (first|((first|refine pC ?_|refine pQC ?_|refine pU ?_);push_cast [iO,tN])|(refine pif (fun h=>?_) (fun h=>?_)<;>first|exact pN h|push_cast [iO,tN]))
 (apply pwp_loop3 (α:=Nat) 7 [] (fun k=>[(6,.c (.v (.int .i64 k)))]) (fun k=>[]) (fun k=>k≤s.size∧(s.data.toList.take k).all textB=true) (fun k=>s.size - k) (0);(focus ((try push_cast [iO,tN]);rfl));(focus exact ⟨by omega,rfl⟩);(focus ((refine weak_fg ?_;try push_cast [iO,tN]))))
 rintro k ⟨hk,ha⟩
 push_cast [iO,tN]
 by_cases hlt:k < s.size
 ·by_cases h1:((s.data.toList.getD k 0).toNat:Int) < 32
  ·have e:=all_not hlt (p:=textB) (by unfold textB;rw [decide_eq_false (by omega)];rfl)
   repeat' (first|((first|refine pC ?_|refine pQC ?_|refine pU ?_);push_cast [iO,tN,h1])|(refine pif (fun h=>?_) (fun h=>?_)<;>first|exact pN h|push_cast [iO,tN,h1]))
   (refine retK_of [] ?_;push_cast [iO,tN])
   rw [textS,e];rfl
  ·by_cases h2:(126:Int) < ((s.data.toList.getD k 0).toNat:Int)
   ·have e:=all_not hlt (p:=textB) (by unfold textB;rw [decide_eq_false (p:=(s.data.toList.getD k 0).toNat≤126) (by omega),Bool.and_false])
    repeat' (first|((first|refine pC ?_|refine pQC ?_|refine pU ?_);push_cast [iO,tN,h1,h2])|(refine pif (fun h=>?_) (fun h=>?_)<;>first|exact pN h|push_cast [iO,tN,h1,h2]))
    (refine retK_of [] ?_;push_cast [iO,tN])
    rw [textS,e];rfl
   ·have e:=all_next hlt ha (by unfold textB;rw [decide_eq_true (by omega),decide_eq_true (by omega)];rfl)
    repeat' (first|((first|refine pC ?_|refine pQC ?_|refine pU ?_);push_cast [iO,tN,h1,h2])|(refine pif (fun h=>?_) (fun h=>?_)<;>first|exact pN h|push_cast [iO,tN,h1,h2]))
    exact ⟨k+1,⟨by omega,e⟩,by (refine weak_fg ?_;push_cast [iO,tN]),by omega⟩
 ·have hk2:k=s.size:=by omega
  subst hk2
  have he:s.data.toList.take s.size=s.data.toList:=List.take_of_length_le (Nat.le_refl _)
  rw [he] at ha
  have hd:decide ((s.size:Int)≤256)=decide (s.size≤256):=decide_eq_decide.2 (by omega)
  repeat' (first|((first|refine pC ?_|refine pQC ?_|refine pU ?_);push_cast [iO,tN])|(refine pif (fun h=>?_) (fun h=>?_)<;>first|exact pN h|push_cast [iO,tN]))
  (refine retK_of [] ?_;push_cast [iO,tN])
  rw [textS,ha,Bool.true_and,← hd]
set_option maxRecDepth 20000
def parseR (p:ByteArray):PV:=.two (if globM p=0 then .c (.sl 1 (altsD ((altsM p).getD []))) else .c (.v (.slice none 0 0))) (.c (.v (.int .i64 (globM p))))
set_option maxRecDepth 20000 in
set_option maxHeartbeats 4000000 in
theorem parse_pure (p:ByteArray) (hf:p.size≤9223372036854775807):PCalls Try.prog 29 [.c (.v (.string p))] [] fun r os=>r=parseR p∧os=[]:=by
 have ht:=text_pure p hf
 refine pcalls_of Try.func29 rfl (by simp [Try.ntmps29]) ?_
 rw [Try.ntmps29,Try.results29]
 push_cast [-List.reduceReplicate,iO,tN]
 unfold parseR
 by_cases h1:256 < p.size
 ·have hR:globM p=21:=by unfold globM;rw [if_pos h1]
  have h1':(256:Int) < (p.size:Int):=by omega
  repeat' (first|((first|refine pG ?_|refine pQ ?_|refine pU ?_);push_cast [-List.reduceReplicate,iO,tN,h1'])|(refine pif (fun h=>?_) (fun h=>?_)<;>first|exact pN h|push_cast [-List.reduceReplicate,iO,tN,h1']))
  (refine retK_of [] ?_;push_cast [-List.reduceReplicate,iO,tN,hR])
 have h1':¬ (256:Int) < (p.size:Int):=by omega
 by_cases h2:p.data.toList.all textB=true
 case neg =>
  have h2':=Bool.eq_false_iff.2 h2
  have hR:globM p=20:=by unfold globM;rw [if_neg h1,if_pos (by rw [h2'];rfl)]
  have hts:textS p=false:=by unfold textS;rw [h2'];rfl
  rw [hts] at ht
  repeat' (first|((refine plc [] (ht) ?_ ?_;push_cast [-List.reduceReplicate,iO,tN,h1'];rintro r os ⟨rfl,rfl⟩;push_cast [-List.reduceReplicate,iO,tN,h1']))|((first|refine pG ?_|refine pQ ?_|refine pU ?_);push_cast [-List.reduceReplicate,iO,tN,h1'])|(refine pif (fun h=>?_) (fun h=>?_)<;>first|exact pN h|push_cast [-List.reduceReplicate,iO,tN,h1']))
  (refine retK_of [] ?_;push_cast [-List.reduceReplicate,iO,tN,hR])
 have hts:textS p=true:=by unfold textS;rw [h2,decide_eq_true (by omega)];rfl
 rw [hts] at ht
 have ha:=alts_pure p (by omega) (text_byt h2) fun i hi=>bset_pure p i hi (by omega) (text_byt h2)
 cases hq:altsM p with
 | none =>
  have hR:globM p=20:=by unfold globM;rw [if_neg h1,if_neg (by rw [h2];simp),hq]
  rw [hq] at ha
  repeat' (first|((refine plc [] (ht) ?_ ?_;push_cast [-List.reduceReplicate,iO,tN,h1'];rintro r os ⟨rfl,rfl⟩;push_cast [-List.reduceReplicate,iO,tN,h1']))|((refine plc [0] (ha) ?_ ?_;push_cast [-List.reduceReplicate,iO,tN,h1'];rintro r os ⟨⟨i,rfl⟩,rfl⟩;push_cast [-List.reduceReplicate,iO,tN,h1']))|((first|refine pG ?_|refine pQ ?_|refine pU ?_);push_cast [-List.reduceReplicate,iO,tN,h1'])|(refine pif (fun h=>?_) (fun h=>?_)<;>first|exact pN h|push_cast [-List.reduceReplicate,iO,tN,h1']))
  (refine retK_of [] ?_;push_cast [-List.reduceReplicate,iO,tN,hR])
 | some l =>
  have hR:globM p=0:=by unfold globM;rw [if_neg h1,if_neg (by rw [h2];simp),hq]
  rw [hq] at ha
  repeat' (first|((refine plc [] (ht) ?_ ?_;push_cast [-List.reduceReplicate,iO,tN,h1'];rintro r os ⟨rfl,rfl⟩;push_cast [-List.reduceReplicate,iO,tN,h1']))|((refine plc [0] (ha) ?_ ?_;push_cast [-List.reduceReplicate,iO,tN,h1'];rintro r os ⟨⟨i,rfl⟩,rfl⟩;push_cast [-List.reduceReplicate,iO,tN,h1']))|((first|refine pG ?_|refine pQ ?_|refine pU ?_);push_cast [-List.reduceReplicate,iO,tN,h1'])|(refine pif (fun h=>?_) (fun h=>?_)<;>first|exact pN h|push_cast [-List.reduceReplicate,iO,tN,h1']))
  (refine retK_of [] ?_;push_cast [-List.reduceReplicate,iO,tN,hR])
  rfl
set_option maxRecDepth 20000 in
set_option maxHeartbeats 4000000 in
theorem match_pure (p s:ByteArray) (hf:p.size≤9223372036854775807) (hs:s.size≤9000000000000000000):PCalls Try.prog 16 [.c (.v (.string p)),.c (.v (.string s))] [] fun r os=>r = .c (.v (.bool (matchM p s)))∧os=[]:=by
 have hp:=parse_pure p hf
 unfold parseR at hp
 refine pcalls_of Try.func16 rfl (by simp [Try.ntmps16]) ?_
 rw [Try.ntmps16,Try.results16]
 push_cast [-List.reduceReplicate,iO,tN]
 have cB:CutB 11 [18,19,33,34,35]:=trivial
 by_cases h0:globM p=0
 case neg =>
  rw [if_neg h0] at hp
  have hR:matchM p s=false:=by unfold matchM;rw [decide_eq_false h0];rfl
  repeat' (first|((refine plc [] (hp) ?_ ?_;push_cast [-List.reduceReplicate,iO,tN,h0];rintro r os ⟨rfl,rfl⟩;push_cast [-List.reduceReplicate,iO,tN,h0]))|((first|refine pC ?_|refine pQC ?_|refine pU ?_);push_cast [-List.reduceReplicate,iO,tN,h0])|(refine pif (fun h=>?_) (fun h=>?_)<;>first|exact pN h|push_cast [-List.reduceReplicate,iO,tN,h0]))
  (refine retK_of [] ?_;push_cast [-List.reduceReplicate,iO,tN,hR])
 rw [if_pos h0,h0] at hp
 repeat' (first |  ((refine plc [] (hp) ?_ ?_;push_cast [-List.reduceReplicate,iO,tN];rintro r os ⟨rfl,rfl⟩;push_cast [-List.reduceReplicate,iO,tN]))  | ((first|refine pC ?_|refine pQC ?_|refine pU ?_);push_cast [-List.reduceReplicate,iO,tN])|(refine pif (fun h=>?_) (fun h=>?_)<;>first|exact pN h|push_cast [-List.reduceReplicate,iO,tN]))
 (apply pwp_loop3 (α:=Nat) 11 [18,19,33,34,35] (fun k=>[(19,.c (.v (.int .i64 k)))]) (fun k=>[]) (fun k=>k≤s.size∧(s.data.toList.take k).all textB=true) (fun k=>s.size - k) (0);(focus ((try push_cast [-List.reduceReplicate,iO,tN]);rfl));(focus exact ⟨by omega,rfl⟩);(focus ((refine weak_fg ?_;try push_cast [-List.reduceReplicate,iO,tN]))))
 rintro k ⟨hk,ha⟩
 push_cast [-List.reduceReplicate,iO,tN]
 by_cases hlt:k < s.size
 ·have bad:textB (s.data.toList.getD k 0)=false → matchM p s=false:=fun hx=>by unfold matchM;rw [all_not hlt hx];simp
  by_cases h1:((s.data.toList.getD k 0).toNat:Int) < 32
  ·have hR:=bad (by unfold textB;rw [decide_eq_false (by omega)];rfl)
   repeat' (first|((first|refine pC ?_|refine pQC ?_|refine pU ?_);push_cast [-List.reduceReplicate,iO,tN,h1])|(refine pif (fun h=>?_) (fun h=>?_)<;>first|exact pN h|push_cast [-List.reduceReplicate,iO,tN,h1]))
   (refine retK_of [] ?_;push_cast [-List.reduceReplicate,iO,tN,hR])
  ·by_cases h2:(126:Int) < ((s.data.toList.getD k 0).toNat:Int)
   ·have hR:=bad (by unfold textB;rw [decide_eq_false (p:=(s.data.toList.getD k 0).toNat≤126) (by omega),Bool.and_false])
    repeat' (first|((first|refine pC ?_|refine pQC ?_|refine pU ?_);push_cast [-List.reduceReplicate,iO,tN,h1,h2])|(refine pif (fun h=>?_) (fun h=>?_)<;>first|exact pN h|push_cast [-List.reduceReplicate,iO,tN,h1,h2]))
    (refine retK_of [] ?_;push_cast [-List.reduceReplicate,iO,tN,hR])
   ·have e:=all_next hlt ha (by unfold textB;rw [decide_eq_true (by omega),decide_eq_true (by omega)];rfl)
    repeat' (first|((first|refine pC ?_|refine pQC ?_|refine pU ?_);push_cast [-List.reduceReplicate,iO,tN,h1,h2])|(refine pif (fun h=>?_) (fun h=>?_)<;>first|exact pN h|push_cast [-List.reduceReplicate,iO,tN,h1,h2]))
    exact ⟨k+1,⟨by omega,e⟩,by (refine weak_fg ?_;push_cast [-List.reduceReplicate,iO,tN]),by omega⟩
 have hk2:k=s.size:=by omega
 subst hk2
 have he:s.data.toList.take s.size=s.data.toList:=List.take_of_length_le (Nat.le_refl _)
 rw [he] at ha
 obtain ⟨l,hq⟩:∃ l,altsM p=some l:=by
  cases hq:altsM p with
  | some l=>exact ⟨l,rfl⟩
  | none =>
   unfold globM at h0
   rw [hq] at h0
   split at h0
   ·cases h0
   ·split at h0<;>cases h0
 have hok:=altsM_ok hq
 have hp256:p.size≤256:=by
  unfold globM at h0
  split at h0
  ·cases h0
  ·omega
 have hll:=altGo_len (Nat.zero_le _) (Nat.zero_le _) (show altGo p 0 [] []=some l from hq)
 have hR:matchM p s=l.any fun x=>mat x s.data.toList:=by unfold matchM;rw [decide_eq_true h0,ha,hq];rfl
 rw [hq,Option.getD_some,altsD]
 repeat' (first|((first|refine pC ?_|refine pQC ?_|refine pU ?_);push_cast [-List.reduceReplicate,iO,tN])|(refine pif (fun h=>?_) (fun h=>?_)<;>first|exact pN h|push_cast [-List.reduceReplicate,iO,tN]))
 (apply pwp_loop3 (α:=Nat) 11 [18,19,33,34,35] (fun k=>[(35,.c (.v (.int .i64 k)))]) (fun k=>[]) (fun k=>k≤l.length∧((l.take k).any fun x=>mat x s.data.toList)=false) (fun k=>l.length - k) (0);(focus ((try push_cast [-List.reduceReplicate,iO,tN]);rfl));(focus exact ⟨by omega,rfl⟩);(focus ((refine weak_fg ?_;try push_cast [-List.reduceReplicate,iO,tN]))))
 rintro k ⟨hk,hn⟩
 push_cast [-List.reduceReplicate,iO,tN]
 by_cases hlt:k < l.length
 ·have hx:=hok (l.getD k default) (by rw [getD_lt l hlt];exact List.getElem_mem _)
  have hm:=matches_pure (l.getD k default) s hx.1 (by have:=hx.2;omega) hs (text_byt ha)
  cases hv:mat (l.getD k default) s.data.toList with
  | true =>
   rw [hv] at hm
   have hR2:matchM p s=true:=by rw [hR,List.any_eq_true];exact ⟨l.getD k default,by rw [getD_lt l hlt];exact List.getElem_mem _,hv⟩
   repeat' (first |  ((refine plc [] (hm) ?_ ?_;push_cast [-List.reduceReplicate,iO,tN];rintro r os ⟨rfl,rfl⟩;push_cast [-List.reduceReplicate,iO,tN]))  | ((first|refine pC ?_|refine pQC ?_|refine pU ?_);push_cast [-List.reduceReplicate,iO,tN])|(refine pif (fun h=>?_) (fun h=>?_)<;>first|exact pN h|push_cast [-List.reduceReplicate,iO,tN]))
   (refine retK_of [] ?_;push_cast [-List.reduceReplicate,iO,tN,hR2])
  | false =>
   rw [hv] at hm
   have hn2:((l.take (k+1)).any fun x=>mat x s.data.toList)=false:=by
    rw [List.take_succ_eq_append_getElem hlt,List.any_append,hn,← getD_lt l hlt]
    simp only [List.any_cons,List.any_nil,hv];rfl
   repeat' (first |  ((refine plc [] (hm) ?_ ?_;push_cast [-List.reduceReplicate,iO,tN];rintro r os ⟨rfl,rfl⟩;push_cast [-List.reduceReplicate,iO,tN]))  | ((first|refine pC ?_|refine pQC ?_|refine pU ?_);push_cast [-List.reduceReplicate,iO,tN])|(refine pif (fun h=>?_) (fun h=>?_)<;>first|exact pN h|push_cast [-List.reduceReplicate,iO,tN]))
   exact ⟨k+1,⟨by omega,hn2⟩,by (refine weak_fg ?_;push_cast [-List.reduceReplicate,iO,tN]),by omega⟩
 ·have hk2:k=l.length:=by omega
  subst hk2
  rw [List.take_length] at hn
  rw [hn] at hR
  repeat' (first|((first|refine pC ?_|refine pQC ?_|refine pU ?_);push_cast [-List.reduceReplicate,iO,tN])|(refine pif (fun h=>?_) (fun h=>?_)<;>first|exact pN h|push_cast [-List.reduceReplicate,iO,tN]))
  (refine retK_of [] ?_;push_cast [-List.reduceReplicate,iO,tN,hR])
set_option maxRecDepth 20000
theorem altsM_good {P:ByteArray} {l:Alts} (h:altsM P=some l) (hP:P.size≤256):GoodA l:=by
 have h1:=altsM_ok h
 have h2:=altGo_len (Nat.zero_le _) (Nat.zero_le _) (show altGo P 0 [] []=some l from h)
 have h3:∀ a,altV l a ∈ l∨altV l a=[]:=fun a=>by
  unfold altV
  by_cases ha:a < l.length
  ·rw [getD_lt l ha];exact .inl (List.getElem_mem _)
  ·rw [List.getD_eq_getElem?_getD,List.getElem?_eq_none (by omega)];exact .inr rfl
 refine ⟨⟨by omega,fun a=>?_⟩,fun a e he=>?_⟩
 ·rcases h3 a with h|h
  ·have:=(h1 _ h).2;omega
  ·rw [h];exact Nat.zero_lt_succ _
 ·rcases h3 a with h|h
  ·exact (h1 _ h).1 e he
  ·rw [h] at he;cases he
def begJ (q:Alts) (i j:Nat):List Pr:=((List.range i).flatMap fun i=>(List.range q.length).map fun j=>⟨i,0,j,0⟩)++(List.range j).map fun j=>⟨i,0,j,0⟩
def bstJ (p q:Alts) (i j:Nat):Int:=(begJ q i j).foldl (fun b x=>lessV b (costV p q x)) (-1)
theorem begJ_next (q:Alts) (i j:Nat):begJ q i (j+1)=begJ q i j++[⟨i,0,j,0⟩]:=by
 unfold begJ
 rw [List.range_succ,List.map_append,List.append_assoc]
 rfl
theorem begJ_row (q:Alts) (i:Nat):begJ q (i+1) 0=begJ q i q.length:=by
 unfold begJ
 rw [List.range_succ,List.flatMap_append]
 simp
theorem begJ_end (p q:Alts):begJ q p.length 0=beginV p q:=by
 unfold begJ beginV
 simp
theorem bstJ_next (p q:Alts) (i j:Nat):bstJ p q i (j+1)=lessV (bstJ p q i j) (costV p q ⟨i,0,j,0⟩):=by
 unfold bstJ
 rw [begJ_next,List.foldl_append]
 rfl
theorem bstJ_row (p q:Alts) (i:Nat):bstJ p q (i+1) 0=bstJ p q i q.length:=by
 unfold bstJ
 rw [begJ_row]
theorem bstJ_end (p q:Alts):bstJ p q p.length 0=bestV p q:=by
 unfold bstJ bestV
 rw [begJ_end]
theorem begJ_ok {p q:Alts} {i j:Nat} (hi:i≤p.length) (hj:j≤q.length) (h:j=0∨i < p.length):∀ x ∈ begJ q i j,PrOk p q x:=by
 intro x hx
 unfold begJ at hx
 rcases List.mem_append.1 hx with hx|hx
 ·obtain ⟨a,ha,hx⟩:=List.mem_flatMap.1 hx
  obtain ⟨b,hb,rfl⟩:=List.mem_map.1 hx
  rw [List.mem_range] at ha hb
  exact ⟨by show a < _;omega,Nat.zero_le _,hb,Nat.zero_le _⟩
 ·obtain ⟨b,hb,rfl⟩:=List.mem_map.1 hx
  rw [List.mem_range] at hb
  exact ⟨by show i < _;omega,Nat.zero_le _,by show b < _;omega,Nat.zero_le _⟩
theorem begJ_len (q:Alts):∀ i j,(begJ q i j).length=i * q.length+j
 | 0,j=>by simp [begJ]
 | i+1,j=>by
  have h:=begJ_len q i q.length
  have h2:(begJ q (i+1) j).length=(begJ q (i+1) 0).length+j:=by unfold begJ;simp
  rw [h2,begJ_row,h,Nat.add_mul,Nat.one_mul]
theorem bstJ_bound {p q:Alts} (hp:SmallA p) (hq:SmallA q) {i j:Nat} (h:∀ x ∈ begJ q i j,PrOk p q x) : -1≤bstJ p q i j∧bstJ p q i j≤2000:=by
 have hf:∀ (l:List Pr) (b:Int),(∀ y ∈ l,PrOk p q y) → (-1≤b∧b≤2000) → (-1≤l.foldl (fun b y=>lessV b (costV p q y)) b∧l.foldl (fun b y=>lessV b (costV p q y)) b≤2000):=by
  intro l
  induction l with
  | nil=>intro b _ h;exact h
  | cons a l ih =>
   intro b h hb
   rw [List.foldl_cons]
   exact ih _ (fun y hy=>h y (by simp [hy])) (lessV_b hb (costV_few (h a (by simp)) hp hq))
 exact hf _ _ h ⟨by omega,by omega⟩
def bytD (b:Nat):List D:=[.v (.int .u8 (b:Int))]
attribute [push_cast] bytD
def txtB (t:List Nat):ByteArray:=strOfNums (t.map fun b:Nat=>(b:Int))
theorem nums_bytD:∀ t:List Nat,nums (t.map bytD)=some (t.map fun b:Nat=>(b:Int))
 | []=>rfl
 | b :: t=>by simp only [List.map_cons,bytD,nums,byteNum,nums_bytD t]
def comR (p q:Alts):PV:=match commonV p q with
 | none=>.three (.c (.v (.string (⟨#[]⟩)))) (.c (.v (.bool false))) (.c (.v (.int .i64 ((0:Int)))))
 | some t=>.three (.c (.v (.string (txtB t)))) (.c (.v (.bool true))) (.c (.v (.int .i64 ((0:Int)))))
structure CmSt where
 n:Nat
 es:List (MK × List D)
 b:List Pr
 t:List Nat
set_option maxHeartbeats 8000000 in
theorem gcommon_pure (P Q:ByteArray) (p q:Alts) (hP:globM P=0) (hQ:globM Q=0) (hp1:altsM P=some p) (hq1:altsM Q=some q) (hPs:P.size≤256) (hQs:Q.size≤256) :
  PCalls Try.prog 33 [.c (.v (.string P)),.c (.v (.string Q))] [] fun r os=>r=comR p q∧os=[]:=by
 have hp:=altsM_good hp1 hPs
 have hq:=altsM_good hq1 hQs
 have gP:=parse_pure P (by omega)
 have gQ:=parse_pure Q (by omega)
 unfold parseR at gP gQ
 rw [if_pos hP,hP,hp1,Option.getD_some] at gP
 rw [if_pos hQ,hQ,hq1,Option.getD_some] at gQ
 have hlp:(altsD p).length=p.length:=by unfold altsD;rw [List.length_map]
 have hlq:(altsD q).length=q.length:=by unfold altsD;rw [List.length_map]
 have hm0:MemoOk p q []:=fun e he=>by cases he
 have hpl:=hp.sm.len
 have hql:=hq.sm.len
 refine pcalls_of Try.func33 rfl (by simp [Try.ntmps33]) ?_
 rw [Try.ntmps33,Try.results33]
 push_cast [-List.reduceReplicate,iO,tN]
 have cB:CutB 21 [27,35,43,44,45,48,49,50,74,79,82]:=trivial
 repeat' (first|((refine plc [] (gP) ?_ ?_;push_cast [-List.reduceReplicate,iO,tN,hlp,hlq];rintro r os ⟨rfl,rfl⟩;push_cast [-List.reduceReplicate,iO,tN,hlp,hlq]))|((refine plc [] (gQ) ?_ ?_;push_cast [-List.reduceReplicate,iO,tN,hlp,hlq];rintro r os ⟨rfl,rfl⟩;push_cast [-List.reduceReplicate,iO,tN,hlp,hlq]))|(refine pl_mkW (n:=4) false rfl (by push_cast [-List.reduceReplicate,iO,tN,hlp,hlq]) (by push_cast [-List.reduceReplicate,iO,tN,hlp,hlq]) ?_;push_cast [-List.reduceReplicate,iO,tN,hlp,hlq];refine pl_of_pops ?_;push_cast [-List.reduceReplicate,iO,tN,hlp,hlq])|((first|refine pC ?_|refine pQC ?_|refine pU ?_);push_cast [-List.reduceReplicate,iO,tN,hlp,hlq])|(refine pif (fun h=>?_) (fun h=>?_)<;>first|exact pN h|push_cast [-List.reduceReplicate,iO,tN,hlp,hlq]))
 refine pwp_weak (weak_adopt 11 101 4 (by omega) (by push_cast [-List.reduceReplicate,iO,tN])) ?_
 push_cast [-List.reduceReplicate,iO,tN]
 (apply pwp_loop3 (α:=Nat × List (MK × List D)) 21 [27,35,43,44,45,48,49,50,74,79,82] (fun z=>[(44,.c (.v (.int .i64 z.1))),(11,.c (.own 2 (begJ q z.1 0).length)),(12,.c (.v (.int .i64 (bstJ p q z.1 0))))]) (fun z=>[(0,.map (some (.wide 4)) false z.2),(2,.arr 101 4 ((begJ q z.1 0).map Pr.d))]) (fun z=>z.1≤p.length∧MemoOk p q z.2) (fun z=>p.length - z.1) ((0,[]));(focus ((try push_cast [-List.reduceReplicate,iO,tN]);rfl));(focus exact ⟨by omega,hm0⟩);(focus ((refine weak_fg ?_;try push_cast [-List.reduceReplicate,iO,tN]);(try (exact ⟨⟨rfl,rfl⟩,rfl⟩)))))
 rintro ⟨i,es⟩ ⟨hi,hes⟩
 simp only at hi hes ⊢
 push_cast [-List.reduceReplicate,iO,tN]
 by_cases hlt:i < p.length
 ·repeat' (first|((first|refine pC ?_|refine pQC ?_|refine pU ?_);push_cast [-List.reduceReplicate,iO,tN,hlq])|(refine pif (fun h=>?_) (fun h=>?_)<;>first|exact pN h|push_cast [-List.reduceReplicate,iO,tN,hlq]))
  (apply pwp_loop3 (α:=Nat × List (MK × List D)) 21 [27,35,43,44,45,48,49,50,74,79,82] (fun z=>[(49,.c (.v (.int .i64 z.1))),(11,.c (.own 2 (begJ q i z.1).length)),(12,.c (.v (.int .i64 (bstJ p q i z.1))))]) (fun z=>[(0,.map (some (.wide 4)) false z.2),(2,.arr 101 4 ((begJ q i z.1).map Pr.d))]) (fun z=>z.1≤q.length∧MemoOk p q z.2) (fun z=>q.length - z.1) ((0,es));(focus ((try push_cast [-List.reduceReplicate,iO,tN]);rfl));(focus exact ⟨by omega,hes⟩);(focus ((refine weak_fg ?_;try push_cast [-List.reduceReplicate,iO,tN]))))
  rintro ⟨j,fs⟩ ⟨hj,hfs⟩
  simp only at hj hfs ⊢
  push_cast [-List.reduceReplicate,iO,tN]
  by_cases hjt:j < q.length
  ·have hb1:=begJ_next q i j
   have hb2:=bstJ_next p q i j
   have hbl:=begJ_len q i j
   have hbl2:=begJ_len q i (j+1)
   have hxo:PrOk p q ⟨i,0,j,0⟩:=⟨hlt,Nat.zero_le _,hjt,Nat.zero_le _⟩
   have hbb:=bstJ_bound hp.sm hq.sm (begJ_ok (p:=p) (q:=q) (i:=i) (j:=j) (by omega) (by omega) (.inr hlt))
   have hcb:=costV_few hxo hp.sm hq.sm
   have hmul:i * q.length≤1000 * 1000:=Nat.mul_le_mul (by omega) (by omega)
   have hC:=gcost_pure p q hp hq _ _ fs (Nat.lt_succ_self _) hxo hfs
   obtain ⟨c,hc⟩:∃ c,costV p q ⟨i,0,j,0⟩=c:=⟨_,rfl⟩
   rw [hc] at hC hcb hb2
   obtain ⟨b,hb⟩:∃ b,bstJ p q i j=b:=⟨_,rfl⟩
   rw [hb] at hb2 hbb ⊢
   obtain ⟨G,hG⟩:∃ G,begJ q i j=G:=⟨_,rfl⟩
   rw [hG] at hb1 hbl ⊢
   have hgl:G.length≤2000000:=by omega
   unfold lessV at hb2
   by_cases h1:0≤c
   ·by_cases h2:b < 0
    ·rw [if_pos ⟨h1,.inl h2⟩] at hb2
     repeat' (first|((refine plc [1,0] (hC) ?_ ?_;push_cast [-List.reduceReplicate,iO,tN,h1,h2];rintro r os ⟨fs,hfs,rfl,rfl⟩;push_cast [-List.reduceReplicate,iO,tN,h1,h2]))|((first|refine pC ?_|refine pQC ?_|refine pU ?_);push_cast [-List.reduceReplicate,iO,tN,h1,h2])|(refine pif (fun h=>?_) (fun h=>?_)<;>first|exact pN h|push_cast [-List.reduceReplicate,iO,tN,h1,h2]))
     exact ⟨(j+1,fs),⟨by simp only;omega,hfs⟩,by (refine weak_fg ?_;push_cast [-List.reduceReplicate,iO,tN,hb1,hb2,Pr.d]),by simp only;omega⟩
    ·by_cases h3:c < b
     ·rw [if_pos ⟨h1,.inr h3⟩] at hb2
      repeat' (first|((refine plc [1,0] (hC) ?_ ?_;push_cast [-List.reduceReplicate,iO,tN,h1,h2,h3];rintro r os ⟨fs,hfs,rfl,rfl⟩;push_cast [-List.reduceReplicate,iO,tN,h1,h2,h3]))|((first|refine pC ?_|refine pQC ?_|refine pU ?_);push_cast [-List.reduceReplicate,iO,tN,h1,h2,h3])|(refine pif (fun h=>?_) (fun h=>?_)<;>first|exact pN h|push_cast [-List.reduceReplicate,iO,tN,h1,h2,h3]))
      exact ⟨(j+1,fs),⟨by simp only;omega,hfs⟩,by (refine weak_fg ?_;push_cast [-List.reduceReplicate,iO,tN,hb1,hb2,Pr.d]),by simp only;omega⟩
     ·rw [if_neg (by rintro ⟨_,h|h⟩<;>omega)] at hb2
      repeat' (first|((refine plc [1,0] (hC) ?_ ?_;push_cast [-List.reduceReplicate,iO,tN,h1,h2,h3];rintro r os ⟨fs,hfs,rfl,rfl⟩;push_cast [-List.reduceReplicate,iO,tN,h1,h2,h3]))|((first|refine pC ?_|refine pQC ?_|refine pU ?_);push_cast [-List.reduceReplicate,iO,tN,h1,h2,h3])|(refine pif (fun h=>?_) (fun h=>?_)<;>first|exact pN h|push_cast [-List.reduceReplicate,iO,tN,h1,h2,h3]))
      exact ⟨(j+1,fs),⟨by simp only;omega,hfs⟩,by (refine weak_fg ?_;push_cast [-List.reduceReplicate,iO,tN,hb1,hb2,Pr.d]),by simp only;omega⟩
   ·rw [if_neg (by rintro ⟨h,_⟩;exact h1 h)] at hb2
    repeat' (first|((refine plc [1,0] (hC) ?_ ?_;push_cast [-List.reduceReplicate,iO,tN,h1];rintro r os ⟨fs,hfs,rfl,rfl⟩;push_cast [-List.reduceReplicate,iO,tN,h1]))|((first|refine pC ?_|refine pQC ?_|refine pU ?_);push_cast [-List.reduceReplicate,iO,tN,h1])|(refine pif (fun h=>?_) (fun h=>?_)<;>first|exact pN h|push_cast [-List.reduceReplicate,iO,tN,h1]))
    exact ⟨(j+1,fs),⟨by simp only;omega,hfs⟩,by (refine weak_fg ?_;push_cast [-List.reduceReplicate,iO,tN,hb1,hb2,Pr.d]),by simp only;omega⟩
  ·have hjl:j=q.length:=by omega
   have hr1:=begJ_row q i
   have hr2:=bstJ_row p q i
   rw [← hjl] at hr1 hr2
   repeat' (first|((first|refine pC ?_|refine pQC ?_|refine pU ?_);push_cast [-List.reduceReplicate,iO,tN])|(refine pif (fun h=>?_) (fun h=>?_)<;>first|exact pN h|push_cast [-List.reduceReplicate,iO,tN]))
   exact ⟨(i+1,fs),⟨by simp only;omega,hfs⟩,by (refine weak_fg ?_;push_cast [-List.reduceReplicate,iO,tN,hr1,hr2]),by simp only;omega⟩
 ·have hil:i=p.length:=by omega
  subst hil
  have hbo:=begJ_ok (p:=p) (q:=q) (i:=p.length) (j:=0) (Nat.le_refl _) (Nat.zero_le _) (.inl rfl)
  have hbb:=bstJ_bound hp.sm hq.sm hbo
  have hbl:=begJ_len q p.length 0
  have hmul:p.length * q.length≤1000 * 1000:=Nat.mul_le_mul (by omega) (by omega)
  rw [begJ_end,bstJ_end] at *
  by_cases hneg:bestV p q < 0
  ·have hR:comR p q = .three (.c (.v (.string (⟨#[]⟩)))) (.c (.v (.bool false))) (.c (.v (.int .i64 ((0:Int))))):=by unfold comR commonV;rw [if_pos hneg]
   rw [hR]
   repeat' (first|((first|refine pC ?_|refine pQC ?_|refine pU ?_);push_cast [-List.reduceReplicate,iO,tN,hneg])|(refine pif (fun h=>?_) (fun h=>?_)<;>first|exact pN h|push_cast [-List.reduceReplicate,iO,tN,hneg]))
   (refine retK_of [] ?_;push_cast [-List.reduceReplicate,iO,tN])
  ·repeat' (first|((first|refine pC ?_|refine pQC ?_|refine pU ?_);push_cast [-List.reduceReplicate,iO,tN,hneg])|(refine pif (fun h=>?_) (fun h=>?_)<;>first|exact pN h|push_cast [-List.reduceReplicate,iO,tN,hneg]))
   have hR:comR p q = .three (.c (.v (.string (txtB (textF p q (bestV p q).toNat (beginV p q)))))) (.c (.v (.bool true))) (.c (.v (.int .i64 ((0:Int))))):=by unfold comR commonV;rw [if_neg hneg]
   obtain ⟨N,hN⟩:=Int.eq_ofNat_of_zero_le (show 0≤bestV p q by omega)
   rw [hN] at hR hbb ⊢
   rw [Int.toNat_natCast] at hR
   obtain ⟨T,hT⟩:∃ T,textF p q N (beginV p q)=T:=⟨_,rfl⟩
   rw [hT] at hR
   obtain ⟨G0,hG0⟩:∃ G,beginV p q=G:=⟨_,rfl⟩
   rw [hG0] at hbo hbl hT ⊢
   refine pwp_weak (weak_adopt 17 5 1 (by omega) (by push_cast [-List.reduceReplicate,iO,tN])) ?_
   push_cast [-List.reduceReplicate,iO,tN]
   (apply pwp_loop3 (α:=CmSt) 21 [27,35,43,44,45,48,49,50,74,79,82] (fun z=>[(18,.c (.v (.int .i64 (z.n:Int)))),(11,.c (.own 2 z.b.length)),(17,.c (.own 3 z.t.length))]) (fun z=>[(0,.map (some (.wide 4)) false z.es),(2,.arr 101 4 (z.b.map Pr.d)),(3,.arr 5 1 (z.t.map bytD))]) (fun z=>z.n≤N∧MemoOk p q z.es∧(∀ x ∈ z.b,PrOk p q x)∧z.b.length≤1000000000000∧z.t++textF p q z.n z.b=T∧z.t.length+z.n=N) (fun z=>z.n) (⟨N,es,G0,[]⟩);(focus ((try push_cast [-List.reduceReplicate,iO,tN]);rfl));(focus exact ⟨Nat.le_refl _,hes,hbo,by show G0.length≤_;omega,hT,by simp⟩);(focus ((refine weak_fg ?_;try push_cast [-List.reduceReplicate,iO,tN]))))
   rintro ⟨n,es,G,t⟩ ⟨i1,i2,i3,i4,i5,i6⟩
   simp only at i1 i2 i3 i4 i5 i6 ⊢
   push_cast [-List.reduceReplicate,iO,tN]
   cases n with
   | zero =>
    unfold textF at i5
    rw [List.append_nil] at i5
    subst i5
    have hnb:=nums_bytD t
    rw [hR]
    refine pwp_weak (weak_frz 3 (by omega)) ?_
    push_cast [-List.reduceReplicate,iO,tN]
    repeat' (first|((first|refine pC ?_|refine pQC ?_|refine pU ?_);push_cast [-List.reduceReplicate,iO,tN,hnb])|(refine pif (fun h=>?_) (fun h=>?_)<;>first|exact pN h|push_cast [-List.reduceReplicate,iO,tN,hnb]))
    (refine retK_of [] ?_;push_cast [-List.reduceReplicate,iO,tN,txtB])
   | succ n =>
    have hcast:((n+1:Nat):Int)=(n:Int)+1:=by omega
    have hn2:0≤(n:Int)+1∧(n:Int)+1≤100000:=by omega
    have hS:=gspread_pure p q hp hq ((n:Int)+1) G es i3 i4 i2
    have hAok:=spread_ok ((n:Int)+1) hp.sm hq.sm (fuelV G) G [] ⟨i3,by simp,List.nodup_nil⟩
    unfold textF at i5
    simp only at i5
    rw [hcast] at i5
    obtain ⟨A,hA⟩:∃ A,spreadF p q ((n:Int)+1) (fuelV G) G []=A:=⟨_,rfl⟩
    rw [hA] at hS hAok i5
    have hAl:=hAok.few hp.sm hq.sm
    have hL:=fun fs hfs=>gleast_pure p q hp hq ((n:Int)+1) hn2 A fs hAok.ha hAl hfs
    have hgo:=leastGo_ok (n:=(n:Int)+1) A (127,[]) hAok.ha (by simp)
    rw [show A.foldl (leastStep p q ((n:Int)+1)) (127,[])=leastV p q ((n:Int)+1) A from rfl] at hgo
    have hmm:=lstJ_m p q ((n:Int)+1) A A.length (Nat.le_refl _)
    rw [show lstJ p q ((n:Int)+1) A A.length=leastV p q ((n:Int)+1) A by unfold lstJ leastV;rw [List.take_length]] at hmm
    obtain ⟨r,hr⟩:∃ r,leastV p q ((n:Int)+1) A=r:=⟨_,rfl⟩
    simp only [hr] at hL
    rw [hr] at i5 hgo hmm
    obtain ⟨m,G2⟩:=r
    simp only [List.length_nil] at hL i5 hgo hmm
    have htl:t.length≤100000:=by omega
    repeat' (first |  ((refine plc [1,0,2] (hS) ?_ ?_;push_cast [-List.reduceReplicate,iO,tN];rintro r os ⟨fs,J,hfs,rfl,rfl⟩;push_cast [-List.reduceReplicate,iO,tN]))|(refine pl_weak (weak_frz 4 (by omega)) ?_;push_cast [-List.reduceReplicate,iO,tN];(refine plc [1,0] (hL fs hfs) ?_ ?_;push_cast [-List.reduceReplicate,iO,tN];rintro r os ⟨fs2,hf2,rfl,rfl⟩;push_cast [-List.reduceReplicate,iO,tN]))  | ((first|refine pC ?_|refine pQC ?_|refine pU ?_);push_cast [-List.reduceReplicate,iO,tN])|(refine pif (fun h=>?_) (fun h=>?_)<;>first|exact pN h|push_cast [-List.reduceReplicate,iO,tN]))
    exact ⟨⟨n,fs2,G2,t++[m]⟩,⟨by simp only;omega,hf2,hgo.1,by simp only;omega,by simp only;rw [List.append_assoc];exact i5,by simp only [List.length_append,List.length_cons,List.length_nil];omega⟩,by (refine weak_keep true [0,1,5,3] ?_;push_cast [-List.reduceReplicate,iO,tN]),by simp only;omega⟩
end Go.Proofs.Ythhfpcbpiphfiaa
namespace Go.Proofs.Ythhfpcbpiphfiaa
open Go.RowKit
open IntWalk renaming iteOmega → iO, toNatUp → tN
set_option linter.unusedVariables false
set_option linter.unusedSimpArgs false
def beginL:List El → List UInt8
 | []=>[]
 | e :: l=>if e.lit=0 then [] else UInt8.ofNat e.lit :: beginL l
def cpre:List UInt8 → List UInt8 → List UInt8
 | a :: l,b :: m=>if a=b then a :: cpre l m else []
 | _,_=>[]
def prefL:List (List El) → List UInt8
 | []=>[]
 | x :: r=>r.foldl (fun a y=>cpre a (beginL y)) (beginL x)
def LitOk (e:El):Prop:=e.lit≠0 → e.star=false∧∀ b:UInt8,e.has b=true → b=UInt8.ofNat e.lit
theorem begin_mat:∀ {l:List El} {s:List UInt8},(∀ e ∈ l,LitOk e) → mat l s=true → beginL l <+: s
 | [],s,_,_=>List.nil_prefix
 | e :: l,s,hl,h=>by
  unfold beginL
  split
  ·exact List.nil_prefix
  ·rename_i h0
   obtain ⟨h1,h2⟩:=hl e (by simp) h0
   cases s with
   | nil=>rw [mat_end h1] at h;cases h
   | cons b s =>
    rw [mat_one h1,Bool.and_eq_true] at h
    rw [← h2 b h.1]
    exact List.cons_prefix_cons.2 ⟨rfl,begin_mat (fun x hx=>hl x (by simp [hx])) h.2⟩
theorem cpre_left:∀ a b:List UInt8,cpre a b <+: a
 | [],[]=>List.nil_prefix
 | [],_ :: _=>List.nil_prefix
 | _ :: _,[]=>List.nil_prefix
 | a :: l,b :: m=>by
  unfold cpre
  split
  ·exact List.cons_prefix_cons.2 ⟨rfl,cpre_left l m⟩
  ·exact List.nil_prefix
theorem cpre_right:∀ a b:List UInt8,cpre a b <+: b
 | [],[]=>List.nil_prefix
 | [],_ :: _=>List.nil_prefix
 | _ :: _,[]=>List.nil_prefix
 | a :: l,b :: m=>by
  unfold cpre
  split
  ·rename_i e
   subst e
   exact List.cons_prefix_cons.2 ⟨rfl,cpre_right l m⟩
  ·exact List.nil_prefix
theorem foldl_cpre:∀ (r:List (List El)) (a:List UInt8),(r.foldl (fun a y=>cpre a (beginL y)) a <+: a)∧∀ y ∈ r,r.foldl (fun a y=>cpre a (beginL y)) a <+: beginL y
 | [],a=>⟨List.prefix_refl a,fun y hy=>by cases hy⟩
 | x :: r,a=>by
  obtain ⟨h1,h2⟩:=foldl_cpre r (cpre a (beginL x))
  refine ⟨h1.trans (cpre_left _ _),fun y hy=>?_⟩
  rcases List.mem_cons.1 hy with rfl|hy
  ·exact h1.trans (cpre_right _ _)
  ·exact h2 y hy
theorem prefL_le {l:List (List El)} {x:List El} (h:x ∈ l):prefL l <+: beginL x:=by
 cases l with
 | nil=>cases h
 | cons y r =>
  rcases List.mem_cons.1 h with rfl|h
  ·exact (foldl_cpre r _).1
  ·exact (foldl_cpre r _).2 x h
theorem litOk_zero {e:El} (h:e.lit=0):LitOk e:=fun h0=>absurd h h0
theorem litOk_lit (b:UInt8):LitOk (litEl b):=fun h0=>⟨rfl,fun c hc=>by
 unfold El.has litEl at hc
 simp only at hc
 have:UInt8.ofNat b.toNat=b:=by simp
 show c=UInt8.ofNat b.toNat
 rw [this]
 by_cases e:c.toNat=b.toNat
 ·exact UInt8.toNat_inj.1 e
 ·unfold noneS at hc
  rw [List.getD_eq_getElem?_getD,List.getElem?_set_ne (fun h=>e h.symm),List.getElem?_replicate] at hc
  split at hc<;>simp at hc⟩
theorem altGo_lit {p:ByteArray} {i:Nat} {l:List (List El)} {x:List El} {r:List (List El)} (h:altGo p i l x=some r) (hl:∀ y ∈ l,∀ e ∈ y,LitOk e) (hx:∀ e ∈ x,LitOk e):∀ y ∈ r,∀ e ∈ y,LitOk e:=by
 have snoc:∀ {x:List El} {e:El},(∀ e ∈ x,LitOk e) → LitOk e → ∀ e' ∈ x++[e],LitOk e':=fun hx he e' h=>by
  rcases List.mem_append.1 h with h|h
  ·exact hx e' h
  ·rw [List.mem_singleton.1 h];exact he
 have snoc2:∀ {l:List (List El)} {x:List El},(∀ y ∈ l,∀ e ∈ y,LitOk e) → (∀ e ∈ x,LitOk e) → ∀ y ∈ l++[x],∀ e ∈ y,LitOk e:=fun hl hx y h=>by
  rcases List.mem_append.1 h with h|h
  ·exact hl y h
  ·rw [List.mem_singleton.1 h];exact hx
 fun_induction altGo p i l x<;>first
  | (cases h;done)
  | (injection h with h;subst h;exact snoc2 hl hx)
  | (rename_i ih;exact ih h (snoc2 hl hx) (fun e he=>by cases he))
  | (rename_i ih;exact ih h hl (snoc hx (litOk_zero rfl)))
  | (rename_i ih;exact ih h hl (snoc hx (litOk_lit _)))
  | skip
theorem altsM_lit {p:ByteArray} {r:List (List El)} (h:altsM p=some r):∀ y ∈ r,∀ e ∈ y,LitOk e:=altGo_lit h (fun y hy=>by cases hy) (fun e he=>by cases he)
def prefM (p:ByteArray):List UInt8:=match altsM p with|none=>[]|some l=>prefL l
theorem match_pref {p s:ByteArray} (h:matchM p s=true):globM p=0∧prefM p <+: s.data.toList:=by
 unfold matchM at h
 rw [Bool.and_eq_true,Bool.and_eq_true,decide_eq_true_eq] at h
 refine ⟨h.1.1,?_⟩
 have h2:=h.2
 unfold prefM
 cases e:altsM p with
 | none=>exact List.nil_prefix
 | some l =>
  rw [e] at h2
  simp only at h2 ⊢
  obtain ⟨x,hx,hm⟩:=List.any_eq_true.1 h2
  exact (prefL_le hx).trans (begin_mat (altsM_lit e x hx) hm)
end Go.Proofs.Ythhfpcbpiphfiaa
