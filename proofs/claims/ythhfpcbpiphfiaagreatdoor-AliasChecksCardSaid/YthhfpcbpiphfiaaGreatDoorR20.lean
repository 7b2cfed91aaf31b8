/- What the program computes, and the plain laws of it, part 20. -/
import Derived.WideKeyEntry
import Derived.Test.YthhfpcbpiphfiaaGreatDoorR19
namespace Go.Proofs.YthhfpcbpiphfiaaGreatDoor
attribute [local irreducible] PL QL PWPr PCalls Weak RetK Kontr PA
open Go.RowKit
open IntWalk renaming iteOmega → iO, toNatUp → tN
set_option linter.unusedVariables false
set_option linter.unusedSimpArgs false
set_option maxRecDepth 20000
theorem wayM_star {L S at_ st f i:Nat} (h:at_ < L) (hs:st≤at_) (hi:i≤S):wayM L S (at_+1) (at_+1) i < wayM L S at_ st f:=by
 unfold wayM
 obtain ⟨X,hX⟩:∃ X,(S+1) * (L+2)=X:=⟨_,rfl⟩
 have h1:(S - i) * (L+2)≤S * (L+2):=Nat.mul_le_mul_right _ (by omega)
 have h2:S * (L+2)+(L+2)=X:=by rw [← hX,Nat.add_mul];omega
 have h3:(L - (at_+1)+1) * X≤(L - st) * X:=Nat.mul_le_mul_right _ (by omega)
 rw [hX,Nat.add_mul] at *
 omega
theorem wayM_step {L S at_ st f:Nat} (h:at_ < L):wayM L S (at_+1) st f < wayM L S at_ st f:=by unfold wayM;omega
theorem wayM_back {L S at_ st f:Nat} (hf:f < S):wayM L S st st (f+1) < wayM L S at_ st f:=by
 unfold wayM
 have h1:(S - (f+1)+1) * (L+2)≤(S - f) * (L+2):=Nat.mul_le_mul_right _ (by omega)
 rw [Nat.add_mul] at h1
 omega
theorem rd_bool (l:List Bool) (k:Nat) (h:k < l.length):List.map D.e (List.drop k (l.map boolD))=E.v (.bool (l.getD k false)) :: (l.drop (k+1)).map boolE:=by
 rw [List.drop_eq_getElem_cons (by simpa using h)]
 simp only [List.map_cons,List.map_drop,List.map_map,List.getElem_map,List.getD,List.getElem?_eq_getElem h,Option.getD_some]
 rfl
def OkEl (l:List El):Prop:=∀ e ∈ l,e.set.length=127
theorem okEl_get {l:List El} (h:OkEl l) {k:Nat} (hk:k < l.length):(l.getD k default).set.length=127:=by rw [getD_lt l hk];exact h _ (List.getElem_mem hk)
set_option maxRecDepth 20000 in
set_option maxHeartbeats 4000000 in
theorem matches_pure (l:List El) (s:ByteArray) (hl:OkEl l) (hll:l.length≤1000000) (hs:s.size≤9000000000000000000) (hb:∀ k,byt s k≤126) :
  PCalls Tryz.prog 54 [.c (.sl 129 (l.map El.d)),.c (.v (.string s))] [] fun r os=>r = .c (.v (.bool (mat l s.data.toList)))∧os=[]:=by
 refine pcalls_of Tryz.func54 rfl (by simp [Tryz.ntmps54]) ?_
 rw [Tryz.ntmps54,Tryz.results54]
 push_cast [-List.reduceReplicate,iO,tN]
 have cB:CutB 9 [13,29,49]:=trivial
 repeat' (first|((first|refine pC ?_|refine pQC ?_|refine pU ?_);push_cast [-List.reduceReplicate,iO,tN])|(refine pif (fun h=>?_) (fun h=>?_)<;>first|exact pN h|push_cast [-List.reduceReplicate,iO,tN]))
 (apply pwp_loop3 (α:=Nat × Nat × Nat × Nat) 9 [13,29,49] (fun x=>[(5,.c (.v (.int .i64 x.1))),(6,.c (.v (.int .i64 ((x.2.2.1:Int) - 1)))),(7,.c (.v (.int .i64 x.2.2.2))),(8,.c (.v (.int .i64 x.2.1)))]) (fun x=>[]) (fun x=>Way l s.data.toList x.1 x.2.1 x.2.2.1 x.2.2.2) (fun x=>wayM l.length s.size x.1 x.2.2.1 x.2.2.2) ((0,0,0,0));(focus ((try push_cast [-List.reduceReplicate,iO,tN]);rfl));(focus exact (Way.start _ _));(focus ((refine weak_fg ?_;try push_cast [-List.reduceReplicate,iO,tN]))))
 rintro ⟨a,i,st,f⟩ hw
 simp only at hw ⊢
 push_cast [-List.reduceReplicate,iO,tN]
 have hsz:s.data.toList.length=s.size:=rfl
 have hwi:=hw.hi
 have hwa:=hw.hat
 have hws:=hw.hst
 have hwf:=hw.hf
 by_cases hi:i < s.size
 case neg =>
  have hi2:i=s.size:=by omega
  subst hi2
  have hfin:=hw.fin
  repeat' (first|((first|refine pC ?_|refine pQC ?_|refine pU ?_);push_cast [-List.reduceReplicate,iO,tN])|(refine pif (fun h=>?_) (fun h=>?_)<;>first|exact pN h|push_cast [-List.reduceReplicate,iO,tN]))
  (apply pwp_loop3 (α:=Nat) 9 [13,29,49] (fun k=>[(5,.c (.v (.int .i64 k)))]) (fun k=>[]) (fun k=>k≤l.length∧mat (l.drop k) []=mat (l.drop a) []) (fun k=>l.length - k) (a);(focus ((try push_cast [-List.reduceReplicate,iO,tN]);rfl));(focus exact ⟨hwa,rfl⟩);(focus ((refine weak_fg ?_;try push_cast [-List.reduceReplicate,iO,tN]))))
  rintro k ⟨hk,hm⟩
  push_cast [-List.reduceReplicate,iO,tN]
  by_cases hkl:k < l.length
  ·cases hst:(l.getD k default).star with
   | true =>
    have hm2:mat (l.drop (k+1)) []=mat (l.drop k) []:=by
     rw [drop_at hkl,mat_stars,mat_stars,List.all_cons,← getD_lt l hkl,hst,Bool.true_and]
    repeat' (first|((first|refine pC ?_|refine pQC ?_|refine pU ?_);push_cast [-List.reduceReplicate,iO,tN,El.d,hst])|(refine pif (fun h=>?_) (fun h=>?_)<;>first|exact pN h|push_cast [-List.reduceReplicate,iO,tN,El.d,hst]))
    exact ⟨k+1,⟨by omega,hm2.trans hm⟩,by (refine weak_fg ?_;push_cast [-List.reduceReplicate,iO,tN]),by omega⟩
   | false =>
    have hm2:mat (l.drop k) []=false:=by rw [drop_at hkl,mat_end (by rw [← getD_lt l hkl];exact hst)]
    have hR:mat l s.data.toList=false:=by rw [hfin,← hm,hm2]
    repeat' (first|((first|refine pC ?_|refine pQC ?_|refine pU ?_);push_cast [-List.reduceReplicate,iO,tN,El.d,hst])|(refine pif (fun h=>?_) (fun h=>?_)<;>first|exact pN h|push_cast [-List.reduceReplicate,iO,tN,El.d,hst]))
    (refine retK_of [] ?_;push_cast [-List.reduceReplicate,iO,tN,hR])
    rw [decide_eq_false (by omega)]
  ·have hk2:k=l.length:=by omega
   subst hk2
   have hR:mat l s.data.toList=true:=by rw [hfin,← hm,List.drop_length];rfl
   repeat' (first|((first|refine pC ?_|refine pQC ?_|refine pU ?_);push_cast [-List.reduceReplicate,iO,tN])|(refine pif (fun h=>?_) (fun h=>?_)<;>first|exact pN h|push_cast [-List.reduceReplicate,iO,tN]))
   (refine retK_of [] ?_;push_cast [-List.reduceReplicate,iO,tN,hR])
 obtain ⟨b,hg⟩:∃ b,s.data.toList.getD i 0=b:=⟨_,rfl⟩
 have hb1:b.toNat≤126:=by rw [← hg];exact UInt8.le_iff_toNat_le.1 (hb i)
 have hsi:s.data.toList[i]=b:=by rw [← hg,List.getD_eq_getElem?_getD,List.getElem?_eq_getElem (by omega)];rfl
 by_cases ha:a < l.length
 ·have hla:=getD_lt l ha
  have h127:=okEl_get hl ha
  cases hst:(l.getD a default).star with
  | true =>
   have hw2:=hw.star ha (by rw [← hla];exact hst)
   repeat' (first|((first|refine pC ?_|refine pQC ?_|refine pU ?_);push_cast [-List.reduceReplicate,iO,tN,El.d,hst])|(refine pif (fun h=>?_) (fun h=>?_)<;>first|exact pN h|push_cast [-List.reduceReplicate,iO,tN,El.d,hst]))
   exact ⟨(a+1,i,a+1,i),hw2,by (refine weak_fg ?_;push_cast [-List.reduceReplicate,iO,tN]),wayM_star ha hw.hst (Nat.le_of_lt hi)⟩
  | false =>
   cases hh:(l.getD a default).has b with
   | true =>
    have hw2:=hw.step ha hi (by rw [← hla];exact hst) (by rw [← hla,hsi];exact hh)
    have hrd:=rd_bool (l.getD a default).set b.toNat (by omega)
    rw [show (l.getD a default).set.getD b.toNat false=true from hh] at hrd
    repeat' (first|((first|refine pC ?_|refine pQC ?_|refine pU ?_);push_cast [-List.reduceReplicate,iO,tN,El.d,hst,hg,hrd])|(refine pif (fun h=>?_) (fun h=>?_)<;>first|exact pN h|push_cast [-List.reduceReplicate,iO,tN,El.d,hst,hg,hrd]))
    exact ⟨(a+1,i+1,st,f),hw2,by (refine weak_fg ?_;push_cast [-List.reduceReplicate,iO,tN]),wayM_step ha⟩
   | false =>
    have hrd:=rd_bool (l.getD a default).set b.toNat (by omega)
    rw [show (l.getD a default).set.getD b.toNat false=false from hh] at hrd
    have hno:mat (l.drop a) (s.data.toList.drop i)=false:=mat_miss hi fun _=>⟨ha,by rw [← hla];exact hst,by rw [← hla,hsi];exact hh⟩
    by_cases h0:st=0
    ·subst h0
     have hR:=hw.none hno
     have hst0:¬ (0:Int)≤((0:Nat):Int) - 1:=by omega
     repeat' (first|((first|refine pC ?_|refine pQC ?_|refine pU ?_);push_cast [-List.reduceReplicate,iO,tN,El.d,hst,hg,hrd,hst0])|(refine pif (fun h=>?_) (fun h=>?_)<;>first|exact pN h|push_cast [-List.reduceReplicate,iO,tN,El.d,hst,hg,hrd,hst0]))
     (refine retK_of [] ?_;push_cast [-List.reduceReplicate,iO,tN,hR])
    ·have hw2:=hw.back hi (by omega) hno
     have hst0:(0:Int)≤(st:Int) - 1:=by omega
     have hff:=hw.hf
     repeat' (first|((first|refine pC ?_|refine pQC ?_|refine pU ?_);push_cast [-List.reduceReplicate,iO,tN,El.d,hst,hg,hrd,hst0])|(refine pif (fun h=>?_) (fun h=>?_)<;>first|exact pN h|push_cast [-List.reduceReplicate,iO,tN,El.d,hst,hg,hrd,hst0]))
     have hsa:(st:Int) - 1+1=(st:Int):=by omega
     exact ⟨(st,f+1,st,f+1),hw2,by (refine weak_fg ?_;push_cast [-List.reduceReplicate,iO,tN,hsa]),wayM_back (Nat.lt_of_le_of_lt hff hi)⟩
 ·have hno:mat (l.drop a) (s.data.toList.drop i)=false:=mat_miss hi fun h=>absurd h ha
  by_cases h0:st=0
  ·subst h0
   have hR:=hw.none hno
   have hst0:¬ (0:Int)≤((0:Nat):Int) - 1:=by omega
   repeat' (first|((first|refine pC ?_|refine pQC ?_|refine pU ?_);push_cast [-List.reduceReplicate,iO,tN,hst0])|(refine pif (fun h=>?_) (fun h=>?_)<;>first|exact pN h|push_cast [-List.reduceReplicate,iO,tN,hst0]))
   (refine retK_of [] ?_;push_cast [-List.reduceReplicate,iO,tN,hR])
  ·have hw2:=hw.back hi (by omega) hno
   have hst0:(0:Int)≤(st:Int) - 1:=by omega
   have hff:=hw.hf
   repeat' (first|((first|refine pC ?_|refine pQC ?_|refine pU ?_);push_cast [-List.reduceReplicate,iO,tN,hst0])|(refine pif (fun h=>?_) (fun h=>?_)<;>first|exact pN h|push_cast [-List.reduceReplicate,iO,tN,hst0]))
   have hsa:(st:Int) - 1+1=(st:Int):=by omega
   exact ⟨(st,f+1,st,f+1),hw2,by (refine weak_fg ?_;push_cast [-List.reduceReplicate,iO,tN,hsa]),wayM_back (Nat.lt_of_le_of_lt hff hi)⟩
theorem okEl_snoc {x:List El} {e:El} (h:OkEl x) (he:e.set.length=127):OkEl (x++[e]):=fun y hy=>by
 rcases List.mem_append.1 hy with hy|hy
 ·exact h y hy
 ·rw [List.mem_singleton.1 hy];exact he
theorem altGo_ok {p:ByteArray}:∀ {i:Nat} {l:List (List El)} {x:List El} {r:List (List El)},(∀ a ∈ l,OkEl a∧a.length≤i) → OkEl x → x.length≤i → i≤p.size → altGo p i l x=some r → ∀ a ∈ r,OkEl a∧a.length≤p.size:=by
 intro i
 induction i using (measure fun i=>p.size - i).wf.induction with
 | _ i ih =>
  intro l x r hl hx hxi hi h
  by_cases h1:p.size≤i
  ·rw [altGo,dif_pos h1] at h
   cases h
   intro a ha
   rcases List.mem_append.1 ha with ha|ha
   ·exact ⟨(hl a ha).1,by have:=(hl a ha).2;omega⟩
   ·rw [List.mem_singleton.1 ha];exact ⟨hx,by omega⟩
  have hl1:∀ j,i≤j → ∀ a ∈ l,OkEl a∧a.length≤j:=fun j hj a ha=>⟨(hl a ha).1,by have:=(hl a ha).2;omega⟩
  have m1:p.size - (i+1) < p.size - i:=by omega
  have hel:=everyL_len
  by_cases h2:byt p i=124
  ·rw [altGo,dif_neg h1,if_pos h2] at h
   refine ih (i+1) m1 (fun a ha=>?_) (fun e he=>by simp at he) (Nat.zero_le _) (by omega) h
   rcases List.mem_append.1 ha with ha|ha
   ·exact hl1 _ (by omega) a ha
   ·rw [List.mem_singleton.1 ha];exact ⟨hx,by omega⟩
  by_cases h3:byt p i=42
  ·rw [altGo,dif_neg h1,if_neg h2,if_pos h3] at h
   exact ih (i+1) m1 (hl1 _ (by omega)) (okEl_snoc hx hel) (by simp;omega) (by omega) h
  by_cases h4:byt p i=63
  ·rw [altGo,dif_neg h1,if_neg h2,if_neg h3,if_pos h4] at h
   exact ih (i+1) m1 (hl1 _ (by omega)) (okEl_snoc hx hel) (by simp;omega) (by omega) h
  by_cases h5:byt p i=91
  ·cases hq:bsetM p (i+1) with
   | none=>rw [altGo_none (by omega) h5 hq] at h;cases h
   | some q =>
    rw [altGo_some (by omega) h5 hq] at h
    have hg:=bsetM_gt hq
    exact ih q.2 (by show p.size - q.2 < p.size - i;omega) (hl1 _ (by omega)) (okEl_snoc hx hg.2.2) (by simp;omega) hg.2.1 h
  ·rw [altGo,dif_neg h1,if_neg h2,if_neg h3,if_neg h4,if_neg h5] at h
   exact ih (i+1) m1 (hl1 _ (by omega)) (okEl_snoc hx (by show (noneS.set _ _).length=127;rw [List.length_set];rfl)) (by simp;omega) (by omega) h
theorem altsM_ok {p:ByteArray} {r:List (List El)} (h:altsM p=some r):∀ a ∈ r,OkEl a∧a.length≤p.size:=altGo_ok (fun a ha=>by simp at ha) (fun e he=>by simp at he) (Nat.zero_le _) (Nat.zero_le _) h
theorem altGo_len {p:ByteArray}:∀ {i:Nat} {l:List (List El)} {x:List El} {r:List (List El)},l.length≤i → i≤p.size → altGo p i l x=some r → r.length≤p.size+1:=by
 intro i
 induction i using (measure fun i=>p.size - i).wf.induction with
 | _ i ih =>
  intro l x r hl hi h
  by_cases h1:p.size≤i
  ·rw [altGo,dif_pos h1] at h
   cases h
   simp;omega
  have m1:p.size - (i+1) < p.size - i:=by omega
  by_cases h2:byt p i=124
  ·rw [altGo,dif_neg h1,if_pos h2] at h
   exact ih (i+1) m1 (by simp;omega) (by omega) h
  by_cases h3:byt p i=42
  ·rw [altGo,dif_neg h1,if_neg h2,if_pos h3] at h
   exact ih (i+1) m1 (by omega) (by omega) h
  by_cases h4:byt p i=63
  ·rw [altGo,dif_neg h1,if_neg h2,if_neg h3,if_pos h4] at h
   exact ih (i+1) m1 (by omega) (by omega) h
  by_cases h5:byt p i=91
  ·cases hq:bsetM p (i+1) with
   | none=>rw [altGo_none (by omega) h5 hq] at h;cases h
   | some q =>
    rw [altGo_some (by omega) h5 hq] at h
    have hg:=bsetM_gt hq
    exact ih q.2 (by show p.size - q.2 < p.size - i;omega) (by omega) hg.2.1 h
  ·rw [altGo,dif_neg h1,if_neg h2,if_neg h3,if_neg h4,if_neg h5] at h
   exact ih (i+1) m1 (by omega) (by omega) h
set_option maxRecDepth 20000
set_option maxRecDepth 20000
set_option maxRecDepth 20000
theorem anyAt_all {α:Type} {p:α → Bool} {l:List α} {k:Nat} (hk:k < l.length) [Inhabited α] (h:p (l.getD k default)=true):l.any p=true:=List.any_eq_true.2 ⟨l.getD k default,by rw [getD_lt l hk];exact List.getElem_mem _,h⟩
theorem anyAt_go {α:Type} [Inhabited α] {p:α → Bool} {l:List α} {k:Nat} (hk:k < l.length) (h:(l.take k).any p=false) (h2:p (l.getD k default)=false):(l.take (k+1)).any p=false:=by
 rw [List.take_succ_eq_append_getElem hk,List.any_append,h]
 rw [getD_lt l hk] at h2
 simp [h2]
end Go.Proofs.YthhfpcbpiphfiaaGreatDoor
