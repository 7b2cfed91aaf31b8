/- What the program computes, and the plain laws of it, part 33. -/
import Derived.Lib.IndexAny
import Derived.WideKeyEntry
import Derived.Test.YthhfpcbpiphfiaaR32
namespace Go.Proofs.Ythhfpcbpiphfiaa
attribute [local irreducible] PL QL PWPr PCalls Weak RetK Kontr PA
open Go.RowKit
open IntWalk renaming iteOmega → iO, toNatUp → tN
set_option linter.unusedVariables false
set_option linter.unusedSimpArgs false
set_option maxRecDepth 20000
def bD (b:Bool):List D:=[.v (.bool b)]
attribute [push_cast] bD
theorem bD_set (a:List Bool) (i:Nat) (b:Bool):(a.map bD).set i [.v (.bool b)]=(a.set i b).map bD:=by rw [List.map_set];rfl
abbrev bArr (a:List Bool):Ob:=.arr 4 1 (a.map bD)
set_option maxRecDepth 20000 in
set_option maxHeartbeats 2000000 in
theorem places_pure (l:List El) (a:List Bool) (hl:l.length≤1000000) (ha:a.length=l.length+1) :
  PCalls Try.prog 76 [.c (.sl 130 (l.map El.r)),.c (.sl 1 (a.map bD))] [] fun r os=>r = .c (.own 0 a.length)∧os=[bArr (placesL l a)]:=by
 refine pcalls_of Try.func76 rfl (by simp [Try.ntmps76]) ?_
 rw [Try.ntmps76,Try.results76]
 push_cast [-List.reduceReplicate,iO,tN]
 have cB:CutB 7 []:=trivial
 repeat' (first|((first|refine pC ?_|refine pQC ?_|refine pU ?_);push_cast [-List.reduceReplicate,iO,tN])|(refine pif (fun h=>?_) (fun h=>?_)<;>first|exact pN h|push_cast [-List.reduceReplicate,iO,tN]))
 (apply pwp_loop3 (α:=Nat) 7 [] (fun k=>[(6,.c (.v (.int .i64 k)))]) (fun k=>[(0,bArr (plN l a k))]) (fun k=>k≤l.length) (fun k=>l.length - k) (0);(focus ((try push_cast [-List.reduceReplicate,iO,tN]);rfl));(focus exact (Nat.zero_le _));(focus ((refine weak_fg ?_;try push_cast [-List.reduceReplicate,iO,tN]);(try (rfl)))))
 intro k hk
 push_cast [-List.reduceReplicate,iO,tN]
 have hlen:=plN_len l a k
 by_cases hlt:k < l.length
 ·cases h1:(plN l a k).getD k default with
  | false =>
   have hs:plN l a (k+1)=plN l a k:=by rw [plN,show (plN l a k).getD k false=false from h1];rfl
   repeat' (first|((first|refine pC ?_|refine pQC ?_|refine pU ?_);push_cast [-List.reduceReplicate,iO,tN,hlen,h1])|(refine pif (fun h=>?_) (fun h=>?_)<;>first|exact pN h|push_cast [-List.reduceReplicate,iO,tN,hlen,h1]))
   exact ⟨k+1,by omega,by (refine weak_fg ?_;push_cast [-List.reduceReplicate,iO,tN,hs]),by omega⟩
  | true =>
   cases h2:(l.getD k default).star with
   | false =>
    have hs:plN l a (k+1)=plN l a k:=by rw [plN,show (plN l a k).getD k false=true from h1,h2];rfl
    repeat' (first|((first|refine pC ?_|refine pQC ?_|refine pU ?_);push_cast [-List.reduceReplicate,iO,tN,hlen,h1,h2,El.r])|(refine pif (fun h=>?_) (fun h=>?_)<;>first|exact pN h|push_cast [-List.reduceReplicate,iO,tN,hlen,h1,h2,El.r]))
    exact ⟨k+1,by omega,by (refine weak_fg ?_;push_cast [-List.reduceReplicate,iO,tN,hs]),by omega⟩
   | true =>
    have hs:plN l a (k+1)=(plN l a k).set (k+1) true:=by rw [plN,show (plN l a k).getD k false=true from h1,h2];rfl
    repeat' (first|((first|refine pC ?_|refine pQC ?_|refine pU ?_);push_cast [-List.reduceReplicate,iO,tN,hlen,h1,h2,El.r])|(refine pif (fun h=>?_) (fun h=>?_)<;>first|exact pN h|push_cast [-List.reduceReplicate,iO,tN,hlen,h1,h2,El.r]))
    exact ⟨k+1,by omega,by (refine weak_fg ?_;push_cast [-List.reduceReplicate,iO,tN,hs]),by omega⟩
 ·have hk2:k=l.length:=by omega
  subst hk2
  repeat' (first|((first|refine pC ?_|refine pQC ?_|refine pU ?_);push_cast [-List.reduceReplicate,iO,tN,hlen])|(refine pif (fun h=>?_) (fun h=>?_)<;>first|exact pN h|push_cast [-List.reduceReplicate,iO,tN,hlen]))
  (refine retK_of [0] ?_;push_cast [-List.reduceReplicate,iO,tN,hlen])
  rfl
theorem rset_len {e:El} (h:e.set.length=127):(rset e).length=128:=by
 unfold rset
 split
 ·exact List.length_replicate
 ·rw [List.length_append,h];rfl
theorem rset_get {e:El} (h:e.set.length=127) (hs:e.star=false) {k:Nat} (hk:k≤126):(rset e).getD k false=e.set.getD k false:=by
 unfold rset
 rw [hs,if_neg (by simp),List.getD_eq_getElem?_getD,List.getElem?_append_left (by omega),← List.getD_eq_getElem?_getD]
set_option maxRecDepth 20000 in
set_option maxHeartbeats 4000000 in
theorem one_pureG (l:List El) (s:ByteArray) (hok:OkEl l) (hl:l.length≤100000) (hs:s.size≤9000000000000000000) (hb:∀ k,byt s k≤126) :
  PCalls Try.prog 56 [.c (.sl 130 (l.map El.r)),.c (.v (.string s))] [] fun r os=>r = .c (.v (.bool (mat l s.data.toList)))∧os=[]:=by
 refine pcalls_of Try.func56 rfl (by simp [Try.ntmps56]) ?_
 rw [Try.ntmps56,Try.results56]
 push_cast [-List.reduceReplicate,iO,tN]
 have cB:CutB 9 []:=trivial
 obtain ⟨a0,ha0⟩:∃ a0,(List.replicate (l.length+1) false).set 0 true=a0:=⟨_,rfl⟩
 have hl0:a0.length=l.length+1:=by rw [← ha0];simp
 have hst:=AtOk.start l
 rw [ha0] at hst
 have hp0:=places_pure l a0 (by omega) hl0
 have hm0:(List.replicate (l.length+1) [D.v (.bool false)]).set 0 [D.v (.bool true)]=a0.map bD:=by
  rw [← ha0,List.map_set,List.map_replicate];rfl
 have hd0:List.drop 1 ((List.replicate (l.length+1) [D.v (.bool false)]).getD 0 [])=[]:=by rw [List.replicate_succ];rfl
 have hmk:(l.length:Int)+1=((l.length+1:Nat):Int):=by omega
 repeat' (first|(refine pl_make (n:=l.length+1) (kx:=.i64) (kz:=.i64) (by':=1) (z0:=.v (.bool false)) (d:=.v (.bool false)) rfl rfl (by push_cast [-List.reduceReplicate,iO,tN,hm0,hl0,hd0]) rfl (by kernel_rfl) (by kernel_rfl) rfl (by push_cast [-List.reduceReplicate,iO,tN,hm0,hl0,hd0]) (by push_cast [-List.reduceReplicate,iO,tN,hm0,hl0,hd0]) (by omega) (by omega) (by omega) ?_;push_cast [-List.reduceReplicate,iO,tN,hm0,hl0,hd0];refine pl_of_pops ?_;push_cast [-List.reduceReplicate,iO,tN,hm0,hl0,hd0])|((refine pl_call2 true [] rfl rfl (by kernel_rfl) (hp0) ?_ ?_ ?_;push_cast [-List.reduceReplicate,iO,tN,hm0,hl0,hd0];(intro _ r os;rintro ⟨rfl,rfl⟩;push_cast [-List.reduceReplicate,iO,tN,hm0,hl0,hd0]);rintro r os ⟨rfl,rfl⟩;refine pl_of_pops ?_;push_cast [-List.reduceReplicate,iO,tN,hm0,hl0,hd0]))|((first|refine pC ?_|refine pQC ?_|refine pU ?_);push_cast [-List.reduceReplicate,iO,tN,hm0,hl0,hd0])|(refine pif (fun h=>?_) (fun h=>?_)<;>first|exact pN h|push_cast [-List.reduceReplicate,iO,tN,hm0,hl0,hd0]))
 (apply pwp_loop3 (α:=Nat × List Bool) 9 [] (fun x=>[(6,.c (.v (.int .i64 x.1))),(5,.c (.own 1 (l.length+1)))]) (fun x=>[(1,bArr x.2)]) (fun x=>x.1≤s.size∧AtOk l x.2 (s.data.toList.take x.1)) (fun x=>s.size - x.1) ((0,placesL l a0));(focus ((try push_cast [-List.reduceReplicate,iO,tN]);rfl));(focus exact ⟨Nat.zero_le _,hst⟩);(focus ((refine weak_fg ?_;try push_cast [-List.reduceReplicate,iO,tN]))))
 rintro ⟨k,a⟩ ⟨hk,ha⟩
 simp only at hk ha ⊢
 push_cast [-List.reduceReplicate,iO,tN]
 have hal:=ha.1
 by_cases hlt:k < s.size
 case neg =>
  have hk2:k=s.size:=by omega
  subst hk2
  have hf:=ha.fin
  rw [show s.data.toList.take s.size=s.data.toList from List.take_of_length_le (Nat.le_refl _)] at hf
  have hf2:a.getD l.length default=mat l s.data.toList:=hf
  repeat' (first|((first|refine pC ?_|refine pQC ?_|refine pU ?_);push_cast [-List.reduceReplicate,iO,tN,hal,hf2])|(refine pif (fun h=>?_) (fun h=>?_)<;>first|exact pN h|push_cast [-List.reduceReplicate,iO,tN,hal,hf2]))
  (refine retK_of [] ?_;push_cast [-List.reduceReplicate,iO,tN])
 obtain ⟨b,hg⟩:∃ b,s.data.toList.getD k 0=b:=⟨_,rfl⟩
 have hb1:b.toNat≤126:=by rw [← hg];exact UInt8.le_iff_toNat_le.1 (hb k)
 have hstep:=ha.step b
 have htk:s.data.toList.take k++[b]=s.data.toList.take (k+1):=by
  have hkl:k < s.data.toList.length:=hlt
  rw [List.take_succ_eq_append_getElem hkl,← hg,List.getD_eq_getElem?_getD,List.getElem?_eq_getElem hkl];rfl
 rw [htk] at hstep
 have hn0:List.replicate (l.length+1) [D.v (.bool false)]=(nxN l a b 0).map bD:=by rw [nxN,List.map_replicate];rfl
 repeat' (first|(refine pl_make (n:=l.length+1) (kx:=.i64) (kz:=.i64) (by':=1) (z0:=.v (.bool false)) (d:=.v (.bool false)) rfl rfl (by push_cast [-List.reduceReplicate,iO,tN,hn0]) rfl (by kernel_rfl) (by kernel_rfl) rfl (by push_cast [-List.reduceReplicate,iO,tN,hn0]) (by push_cast [-List.reduceReplicate,iO,tN,hn0]) (by omega) (by omega) (by omega) ?_;push_cast [-List.reduceReplicate,iO,tN,hn0];refine pl_of_pops ?_;push_cast [-List.reduceReplicate,iO,tN,hn0])|((first|refine pC ?_|refine pQC ?_|refine pU ?_);push_cast [-List.reduceReplicate,iO,tN,hn0])|(refine pif (fun h=>?_) (fun h=>?_)<;>first|exact pN h|push_cast [-List.reduceReplicate,iO,tN,hn0]))
 (apply pwp_loop3 (α:=Nat) 9 [] (fun j=>[(8,.c (.v (.int .i64 j)))]) (fun j=>[(2,bArr (nxN l a b j))]) (fun j=>j≤l.length) (fun j=>l.length - j) (0);(focus ((try push_cast [-List.reduceReplicate,iO,tN]);rfl));(focus exact (Nat.zero_le _));(focus ((refine weak_fg ?_;try push_cast [-List.reduceReplicate,iO,tN]))))
 intro j hj
 push_cast [-List.reduceReplicate,iO,tN]
 have hnl:=nxN_len l a b j
 by_cases hjl:j < l.length
 ·have h127:=okEl_get hok hjl
  have hr128:=rset_len h127
  have hd:List.map D.e (List.drop b.toNat ((rset (l.getD j default)).map boolD))=E.v (.bool ((rset (l.getD j default)).getD b.toNat false)) :: ((rset (l.getD j default)).drop (b.toNat+1)).map boolE:=rd_bool _ _ (by omega)
  obtain ⟨at1,hat⟩:∃ c,a.getD j default=c:=⟨_,rfl⟩
  obtain ⟨st,hst1⟩:∃ c,(l.getD j default).star=c:=⟨_,rfl⟩
  obtain ⟨nx,hnx⟩:∃ nx,nxN l a b (j+1)=nx:=⟨_,rfl⟩
  have hnx2:=hnx
  rw [nxN,show a.getD j false=at1 from hat,hst1] at hnx2
  cases at1 with
  | false =>
   have hs:nx=nxN l a b j:=by rw [← hnx2];simp
   repeat' (first|((first|refine pC ?_|refine pQC ?_|refine pU ?_);push_cast [-List.reduceReplicate,iO,tN,hal,hnl,hat])|(refine pif (fun h=>?_) (fun h=>?_)<;>first|exact pN h|push_cast [-List.reduceReplicate,iO,tN,hal,hnl,hat]))
   exact ⟨j+1,by omega,by (refine weak_fg ?_;push_cast [-List.reduceReplicate,iO,tN,hnx,bD_set,hs]),by omega⟩
  | true =>
   cases st with
   | true =>
    have hs:(nxN l a b j).set j true=nx:=by rw [← hnx2];simp
    repeat' (first|((first|refine pC ?_|refine pQC ?_|refine pU ?_);push_cast [-List.reduceReplicate,iO,tN,hal,hnl,hat,hst1,El.r])|(refine pif (fun h=>?_) (fun h=>?_)<;>first|exact pN h|push_cast [-List.reduceReplicate,iO,tN,hal,hnl,hat,hst1,El.r]))
    exact ⟨j+1,by omega,by (refine weak_fg ?_;push_cast [-List.reduceReplicate,iO,tN,hnx,bD_set,hs]),by omega⟩
   | false =>
    have hh:(rset (l.getD j default)).getD b.toNat false=(l.getD j default).has b:=rset_get h127 hst1 hb1
    cases hv:(l.getD j default).has b with
    | true =>
     rw [hh,hv] at hd
     have hs:(nxN l a b j).set (j+1) true=nx:=by rw [← hnx2,hv];simp
     repeat' (first|((first|refine pC ?_|refine pQC ?_|refine pU ?_);push_cast [-List.reduceReplicate,iO,tN,hal,hnl,hat,hst1,El.r,hg,hd,hr128])|(refine pif (fun h=>?_) (fun h=>?_)<;>first|exact pN h|push_cast [-List.reduceReplicate,iO,tN,hal,hnl,hat,hst1,El.r,hg,hd,hr128]))
     exact ⟨j+1,by omega,by (refine weak_fg ?_;push_cast [-List.reduceReplicate,iO,tN,hnx,bD_set,hs]),by omega⟩
    | false =>
     rw [hh,hv] at hd
     have hs:nx=nxN l a b j:=by rw [← hnx2,hv];simp
     repeat' (first|((first|refine pC ?_|refine pQC ?_|refine pU ?_);push_cast [-List.reduceReplicate,iO,tN,hal,hnl,hat,hst1,El.r,hg,hd,hr128])|(refine pif (fun h=>?_) (fun h=>?_)<;>first|exact pN h|push_cast [-List.reduceReplicate,iO,tN,hal,hnl,hat,hst1,El.r,hg,hd,hr128]))
     exact ⟨j+1,by omega,by (refine weak_fg ?_;push_cast [-List.reduceReplicate,iO,tN,hnx,bD_set,hs]),by omega⟩
 have hj2:j=l.length:=by omega
 have hpl:=places_pure l (nxN l a b j) (by omega) hnl
 repeat' (first|((refine pl_call2 true [] rfl rfl (by kernel_rfl) (hpl) ?_ ?_ ?_;push_cast [-List.reduceReplicate,iO,tN,hnl];(intro _ r os;rintro ⟨rfl,rfl⟩;push_cast [-List.reduceReplicate,iO,tN,hnl]);rintro r os ⟨rfl,rfl⟩;refine pl_of_pops ?_;push_cast [-List.reduceReplicate,iO,tN,hnl]))|((first|refine pC ?_|refine pQC ?_|refine pU ?_);push_cast [-List.reduceReplicate,iO,tN,hnl])|(refine pif (fun h=>?_) (fun h=>?_)<;>first|exact pN h|push_cast [-List.reduceReplicate,iO,tN,hnl]))
 have hle:(placesL l (nxN l a b j)).length=l.length+1:=by rw [placesL_len,hnl]
 refine ⟨(k+1,placesL l (nxN l a b j)),⟨by simp only;omega,by rw [hj2];exact hstep⟩,?_,by simp only;omega⟩
 (refine weak_keep true [0,3] ?_;push_cast [-List.reduceReplicate,iO,tN])
set_option maxRecDepth 20000 in
set_option maxHeartbeats 4000000 in
theorem gmatch_pure (p s:ByteArray) (hf:p.size≤9223372036854775807) (hs:s.size≤9000000000000000000):PCalls Try.prog 40 [.c (.v (.string p)),.c (.v (.string s))] [] fun r os=>r = .c (.v (.bool (matchM p s)))∧os=[]:=by
 have hc:=gcheck_pure p hf
 have hpr:=gprint_pure s (by omega)
 refine pcalls_of Try.func40 rfl (by simp [Try.ntmps40]) ?_
 rw [Try.ntmps40,Try.results40]
 push_cast [-List.reduceReplicate,iO,tN]
 have cB:CutB 8 []:=trivial
 by_cases h0:globM p=0
 case neg =>
  have hR:matchM p s=false:=by unfold matchM;rw [decide_eq_false h0];rfl
  repeat' (first|((refine plc [] (hc) ?_ ?_;push_cast [-List.reduceReplicate,iO,tN,h0];rintro r os ⟨rfl,rfl⟩;push_cast [-List.reduceReplicate,iO,tN,h0]))|((first|refine pC ?_|refine pQC ?_|refine pU ?_);push_cast [-List.reduceReplicate,iO,tN,h0])|(refine pif (fun h=>?_) (fun h=>?_)<;>first|exact pN h|push_cast [-List.reduceReplicate,iO,tN,h0]))
  (refine retK_of [] ?_;push_cast [-List.reduceReplicate,iO,tN,hR])
 rw [h0] at hc
 cases ht:s.data.toList.all textB with
 | false =>
  have hR:matchM p s=false:=by unfold matchM;rw [ht];simp
  rw [ht] at hpr
  repeat' (first |  ((refine plc [] (hc) ?_ ?_;push_cast [-List.reduceReplicate,iO,tN];rintro r os ⟨rfl,rfl⟩;push_cast [-List.reduceReplicate,iO,tN]))|((refine plc [] (hpr) ?_ ?_;push_cast [-List.reduceReplicate,iO,tN];rintro r os ⟨rfl,rfl⟩;push_cast [-List.reduceReplicate,iO,tN]))  | ((first|refine pC ?_|refine pQC ?_|refine pU ?_);push_cast [-List.reduceReplicate,iO,tN])|(refine pif (fun h=>?_) (fun h=>?_)<;>first|exact pN h|push_cast [-List.reduceReplicate,iO,tN]))
  (refine retK_of [] ?_;push_cast [-List.reduceReplicate,iO,tN,hR])
 | true =>
 rw [ht] at hpr
 have hp256:p.size≤256:=by
  unfold globM at h0
  split at h0
  ·cases h0
  ·omega
 have htp:p.data.toList.all textB=true:=by
  unfold globM at h0
  rw [if_neg (by omega)] at h0
  cases h:p.data.toList.all textB
  ·rw [h] at h0;cases h0
  ·rfl
 obtain ⟨l,hq⟩:∃ l,altsM p=some l:=by
  cases hq:altsM p with
  | some l=>exact ⟨l,rfl⟩
  | none =>
   unfold globM at h0
   rw [hq] at h0
   split at h0
   ·cases h0
   ·split at h0<;>cases h0
 have hok:=altsM_ok hq
 have hll:=altGo_len (Nat.zero_le _) (Nat.zero_le _) (show altGo p 0 [] []=some l from hq)
 have hR:matchM p s=l.any fun x=>mat x s.data.toList:=by unfold matchM;rw [decide_eq_true h0,ht,hq];rfl
 have hps:=rparse_pure p (by omega)
 unfold rparseR at hps
 rw [hq,htp,if_pos ⟨rfl,rfl⟩,Option.getD_some,altsR] at hps
 simp only [Option.isSome_some,Bool.and_self] at hps
 repeat' (first |  ((refine plc [] (hc) ?_ ?_;push_cast [-List.reduceReplicate,iO,tN];rintro r os ⟨rfl,rfl⟩;push_cast [-List.reduceReplicate,iO,tN]))|((refine plc [] (hpr) ?_ ?_;push_cast [-List.reduceReplicate,iO,tN];rintro r os ⟨rfl,rfl⟩;push_cast [-List.reduceReplicate,iO,tN]))|((refine plc [] (hps) ?_ ?_;push_cast [-List.reduceReplicate,iO,tN];rintro r os ⟨rfl,rfl⟩;push_cast [-List.reduceReplicate,iO,tN]))  | ((first|refine pC ?_|refine pQC ?_|refine pU ?_);push_cast [-List.reduceReplicate,iO,tN])|(refine pif (fun h=>?_) (fun h=>?_)<;>first|exact pN h|push_cast [-List.reduceReplicate,iO,tN]))
 (apply pwp_loop3 (α:=Nat) 8 [] (fun k=>[(7,.c (.v (.int .i64 k)))]) (fun k=>[]) (fun k=>k≤l.length∧((l.take k).any fun x=>mat x s.data.toList)=false) (fun k=>l.length - k) (0);(focus ((try push_cast [-List.reduceReplicate,iO,tN]);rfl));(focus exact ⟨by omega,rfl⟩);(focus ((refine weak_fg ?_;try push_cast [-List.reduceReplicate,iO,tN]))))
 rintro k ⟨hk,hn⟩
 push_cast [-List.reduceReplicate,iO,tN]
 by_cases hlt:k < l.length
 ·have hx:=hok (l.getD k default) (by rw [getD_lt l hlt];exact List.getElem_mem _)
  have hm:=one_pureG (l.getD k default) s hx.1 (by have:=hx.2;omega) hs (text_byt ht)
  cases hv:mat (l.getD k default) s.data.toList with
  | true =>
   rw [hv] at hm
   have hR2:matchM p s=true:=by rw [hR,List.any_eq_true];exact ⟨l.getD k default,by rw [getD_lt l hlt];exact List.getElem_mem _,hv⟩
   repeat' (first |  ((refine plc [] (hm) ?_ ?_;push_cast [-List.reduceReplicate,iO,tN];rintro r os ⟨rfl,rfl⟩;push_cast [-List.reduceReplicate,iO,tN]))  | ((first|refine pC ?_|refine pQC ?_|refine pU ?_);push_cast [-List.reduceReplicate,iO,tN])|(refine pif (fun h=>?_) (fun h=>?_)<;>first|exact pN h|push_cast [-List.reduceReplicate,iO,tN]))
   (refine retK_of [] ?_;push_cast [-List.reduceReplicate,iO,tN,hR2])
  | false =>
   rw [hv] at hm
   have hn2:((l.take (k+1)).any fun x=>mat x s.data.toList)=false:=by
    rw [List.take_succ_eq_append_getElem hlt,List.any_append,hn,← getD_lt l hlt]
    simp only [List.any_cons,List.any_nil,hv];rfl
   repeat' (first |  ((refine plc [] (hm) ?_ ?_;push_cast [-List.reduceReplicate,iO,tN];rintro r os ⟨rfl,rfl⟩;push_cast [-List.reduceReplicate,iO,tN]))  | ((first|refine pC ?_|refine pQC ?_|refine pU ?_);push_cast [-List.reduceReplicate,iO,tN])|(refine pif (fun h=>?_) (fun h=>?_)<;>first|exact pN h|push_cast [-List.reduceReplicate,iO,tN]))
   exact ⟨k+1,⟨by omega,hn2⟩,by (refine weak_fg ?_;push_cast [-List.reduceReplicate,iO,tN]),by omega⟩
 ·have hk2:k=l.length:=by omega
  subst hk2
  rw [List.take_length] at hn
  rw [hn] at hR
  repeat' (first|((first|refine pC ?_|refine pQC ?_|refine pU ?_);push_cast [-List.reduceReplicate,iO,tN])|(refine pif (fun h=>?_) (fun h=>?_)<;>first|exact pN h|push_cast [-List.reduceReplicate,iO,tN]))
  (refine retK_of [] ?_;push_cast [-List.reduceReplicate,iO,tN,hR])
set_option maxRecDepth 20000
theorem anyAt_all {α:Type} {p:α → Bool} {l:List α} {k:Nat} (hk:k < l.length) [Inhabited α] (h:p (l.getD k default)=true):l.any p=true:=List.any_eq_true.2 ⟨l.getD k default,by rw [getD_lt l hk];exact List.getElem_mem _,h⟩
theorem anyAt_go {α:Type} [Inhabited α] {p:α → Bool} {l:List α} {k:Nat} (hk:k < l.length) (h:(l.take k).any p=false) (h2:p (l.getD k default)=false):(l.take (k+1)).any p=false:=by
 rw [List.take_succ_eq_append_getElem hk,List.any_append,h]
 rw [getD_lt l hk] at h2
 simp [h2]
set_option maxHeartbeats 4000000 in
theorem rmats_pure (m:Mod) (s:ByteArray) (hl:m.aliases.length≤1000000) (hz:∀ p ∈ m.aliases,p.size≤1000000000) (hs:s.size≤9000000000000000000) :
  PCalls Try.prog 39 [.agg m.e,.c (.v (.string s))] [] fun r os=>r = .c (.v (.bool (matsA m s)))∧os=[]:=by
 refine pcalls_of Try.func39 rfl (by simp [Try.ntmps39]) ?_
 rw [Try.ntmps39,Try.results39]
 push_cast [iO,tN]
 have cB:CutB 6 []:=trivial
 by_cases h0:s=⟨#[]⟩
 ·have hR:matsA m s=false:=by unfold matsA;rw [decide_eq_false (by simp [h0])];rfl
  subst h0
  repeat' (first|((first|refine pC ?_|refine pQC ?_|refine pU ?_);push_cast [iO,tN])|(refine pif (fun h=>?_) (fun h=>?_)<;>first|exact pN h|push_cast [iO,tN]))
  (apply pwp_loop3 (α:=Nat) 6 [] (fun k=>[(5,.c (.v (.int .i64 k)))]) (fun k=>[]) (fun k=>k=0) (fun k=>0 - k) (0);(focus ((try push_cast [iO,tN]);rfl));(focus exact rfl);(focus ((refine weak_fg ?_;try push_cast [iO,tN]))))
  intro k hk
  subst hk
  push_cast [iO,tN]
  by_cases hp:0 < m.aliases.length
  ·have hp':(0:Int) < (m.aliases.length:Int):=by omega
   repeat' (first|((first|refine pC ?_|refine pQC ?_|refine pU ?_);push_cast [iO,tN,hp',ne_eq,not_true_eq_false])|(refine pif (fun h=>?_) (fun h=>?_)<;>first|exact pN h|push_cast [iO,tN,hp',ne_eq,not_true_eq_false]))
   (refine retK_of [] ?_;push_cast [iO,tN,hR])
  ·have hp':¬ (0:Int) < (m.aliases.length:Int):=by omega
   repeat' (first|((first|refine pC ?_|refine pQC ?_|refine pU ?_);push_cast [iO,tN,hp'])|(refine pif (fun h=>?_) (fun h=>?_)<;>first|exact pN h|push_cast [iO,tN,hp']))
   (refine retK_of [] ?_;push_cast [iO,tN,hR])
 have hR:matsA m s=m.aliases.any fun p=>matchM p s:=by unfold matsA;rw [decide_eq_true h0];rfl
 repeat' (first|((first|refine pC ?_|refine pQC ?_|refine pU ?_);push_cast [iO,tN])|(refine pif (fun h=>?_) (fun h=>?_)<;>first|exact pN h|push_cast [iO,tN]))
 (apply pwp_loop3 (α:=Nat) 6 [] (fun k=>[(5,.c (.v (.int .i64 k)))]) (fun k=>[]) (fun k=>k≤m.aliases.length∧(m.aliases.take k).any (fun p=>matchM p s)=false) (fun k=>m.aliases.length - k) (0);(focus ((try push_cast [iO,tN]);rfl));(focus exact ⟨by omega,rfl⟩);(focus ((refine weak_fg ?_;try push_cast [iO,tN]))))
 rintro k ⟨hk,hpre⟩
 push_cast [iO,tN]
 by_cases hlt:k < m.aliases.length
 ·have hpm:m.aliases.getD k default ∈ m.aliases:=by rw [getD_lt _ hlt];exact List.getElem_mem _
  have hm:=gmatch_pure (m.aliases.getD k default) s (by have:=hz _ hpm;omega) hs
  cases hb:matchM (m.aliases.getD k default) s with
  | true =>
   have hR2:=hR.trans (anyAt_all (p:=fun p=>matchM p s) hlt hb)
   rw [hb] at hm
   repeat' (first|((refine plc [] (hm) ?_ ?_;push_cast [iO,tN,h0,ne_eq,not_false_eq_true];rintro r os ⟨rfl,rfl⟩;push_cast [iO,tN,h0,ne_eq,not_false_eq_true]))|((first|refine pC ?_|refine pQC ?_|refine pU ?_);push_cast [iO,tN,h0,ne_eq,not_false_eq_true])|(refine pif (fun h=>?_) (fun h=>?_)<;>first|exact pN h|push_cast [iO,tN,h0,ne_eq,not_false_eq_true]))
   (refine retK_of [] ?_;push_cast [iO,tN,hR2])
  | false =>
   have hpre2:=anyAt_go (p:=fun p=>matchM p s) hlt hpre hb
   rw [hb] at hm
   repeat' (first|((refine plc [] (hm) ?_ ?_;push_cast [iO,tN,h0,ne_eq,not_false_eq_true];rintro r os ⟨rfl,rfl⟩;push_cast [iO,tN,h0,ne_eq,not_false_eq_true]))|((first|refine pC ?_|refine pQC ?_|refine pU ?_);push_cast [iO,tN,h0,ne_eq,not_false_eq_true])|(refine pif (fun h=>?_) (fun h=>?_)<;>first|exact pN h|push_cast [iO,tN,h0,ne_eq,not_false_eq_true]))
   exact ⟨k+1,⟨by omega,hpre2⟩,by (refine weak_fg ?_;push_cast [iO,tN]),by omega⟩
 ·have hk2:k=m.aliases.length:=by omega
  rw [hk2,List.take_length] at hpre
  have hR2:=hR.trans hpre
  repeat' (first|((first|refine pC ?_|refine pQC ?_|refine pU ?_);push_cast [iO,tN])|(refine pif (fun h=>?_) (fun h=>?_)<;>first|exact pN h|push_cast [iO,tN]))
  (refine retK_of [] ?_;push_cast [iO,tN,hR2])
set_option maxHeartbeats 4000000 in
theorem rfound_pure (c:Cfg) (m:Mod) (s:ByteArray) (hl:m.aliases.length≤1000000) (hz:∀ p ∈ m.aliases,p.size≤1000000000) (hs:s.size≤9000000000000000000) (hbl:c.blocked.length≤1000000) (hx:c.extra.length≤1000000) (hxz:∀ x ∈ c.extra,x.name.size≤1000000000) :
  PCalls Try.prog 25 [.agg c.e,.agg m.e,.c (.v (.string s))] [] fun r os=>r = .c (.v (.bool (foundR c s m)))∧os=[]:=by
 have hms:=rmats_pure m s hl hz hs
 have hin:=in_pure c.blocked m.name (by omega)
 refine pcalls_of Try.func25 rfl (by simp [Try.ntmps25]) ?_
 rw [Try.ntmps25,Try.results25]
 push_cast [iO,tN]
 have cB:CutB 8 [20,46]:=trivial
 by_cases h0:s=⟨#[]⟩
 ·have hR:foundR c s m=false:=by unfold foundR;rw [decide_eq_false (by simp [h0])];rfl
  subst h0
  repeat' (first|((first|refine pC ?_|refine pQC ?_|refine pU ?_);push_cast [iO,tN])|(refine pif (fun h=>?_) (fun h=>?_)<;>first|exact pN h|push_cast [iO,tN]))
  (refine retK_of [] ?_;push_cast [iO,tN,hR])
 have hR:foundR c s m=((matsA m s && !inM m.name c.blocked) || c.extra.any fun x=>decide (x.value=m.name) && matchM x.name s):=by unfold foundR;rw [decide_eq_true h0,Bool.true_and]
 by_cases h1:(matsA m s && !inM m.name c.blocked)=true
 ·rw [h1,Bool.true_or] at hR
  rw [Bool.and_eq_true] at h1
  obtain ⟨a1,a2⟩:=h1
  have a3:inM m.name c.blocked=false:=by simpa using a2
  rw [a1] at hms
  rw [a3] at hin
  repeat' (first|((refine plc [] (hms) ?_ ?_;push_cast [iO,tN,h0];rintro r os ⟨rfl,rfl⟩;push_cast [iO,tN,h0]))|((refine plc [] (hin) ?_ ?_;push_cast [iO,tN,h0];rintro r os ⟨rfl,rfl⟩;push_cast [iO,tN,h0]))|((first|refine pC ?_|refine pQC ?_|refine pU ?_);push_cast [iO,tN,h0])|(refine pif (fun h=>?_) (fun h=>?_)<;>first|exact pN h|push_cast [iO,tN,h0]))
  (refine retK_of [] ?_;push_cast [iO,tN,hR])
 have h2:(matsA m s && !inM m.name c.blocked)=false:=by simpa using h1
 rw [h2,Bool.false_or] at hR
 obtain ⟨q,hq⟩:∃ q:Ext2 → Bool,(fun x=>decide (x.value=m.name) && matchM x.name s)=q:=⟨_,rfl⟩
 have hqx:∀ x,q x=(decide (x.value=m.name) && matchM x.name s):=fun x=>by rw [← hq]
 rw [hq] at hR
 obtain ⟨b1,hb1⟩:∃ b,matsA m s=b:=⟨_,rfl⟩
 obtain ⟨b2,hb2⟩:∃ b,inM m.name c.blocked=b:=⟨_,rfl⟩
 rw [hb1,hb2] at h2
 rw [hb1] at hms
 rw [hb2] at hin
 cases b1 with
 | false =>
  repeat' (first|((refine plc [] (hms) ?_ ?_;push_cast [iO,tN,h0];rintro r os ⟨rfl,rfl⟩;push_cast [iO,tN,h0]))|((refine plc [] (hin) ?_ ?_;push_cast [iO,tN,h0];rintro r os ⟨rfl,rfl⟩;push_cast [iO,tN,h0]))|((first|refine pC ?_|refine pQC ?_|refine pU ?_);push_cast [iO,tN,h0])|(refine pif (fun h=>?_) (fun h=>?_)<;>first|exact pN h|push_cast [iO,tN,h0]))
  (apply pwp_loop3 (α:=Nat) 8 [20,46] (fun k=>[(7,.c (.v (.int .i64 k)))]) (fun k=>[]) (fun k=>k≤c.extra.length∧(c.extra.take k).any q=false) (fun k=>c.extra.length - k) (0);(focus ((try push_cast [iO,tN]);rfl));(focus exact ⟨by omega,rfl⟩);(focus ((refine weak_fg ?_;try push_cast [iO,tN]))))
  rintro k ⟨hk,hpre⟩
  push_cast [iO,tN]
  by_cases hlt:k < c.extra.length
  ·have hxm:c.extra.getD k default ∈ c.extra:=by rw [getD_lt _ hlt];exact List.getElem_mem _
   obtain ⟨x,hxk⟩:∃ x,c.extra.getD k default=x:=⟨_,rfl⟩
   have hgo:=anyAt_go (p:=q) hlt hpre
   have hall:=anyAt_all (p:=q) hlt
   rw [hxk] at hgo hall hxm
   rw [hqx] at hgo hall
   have hm:=gmatch_pure x.name s (by have:=hxz x hxm;omega) hs
   by_cases hv:x.value=m.name
   ·rw [decide_eq_true hv,Bool.true_and] at hgo hall
    cases hb:matchM x.name s with
    | true =>
     have hR2:=hR.trans (hall hb)
     rw [hb] at hm
     repeat' (first|((refine ql_call2 false rfl rfl (by kernel_rfl) (hm) (fun r os h=>h.1) rfl ?_ ?_;push_cast [iO,tN,hxk,hv];refine ql_of_qops ?_;push_cast [iO,tN,hxk,hv]))|((first|refine pC ?_|refine pQC ?_|refine pU ?_);push_cast [iO,tN,hxk,hv])|(refine pif (fun h=>?_) (fun h=>?_)<;>first|exact pN h|push_cast [iO,tN,hxk,hv]))
     (refine retK_of [] ?_;push_cast [iO,tN,hR2])
    | false =>
     have hpre2:=hgo hb
     rw [hb] at hm
     repeat' (first|((refine ql_call2 false rfl rfl (by kernel_rfl) (hm) (fun r os h=>h.1) rfl ?_ ?_;push_cast [iO,tN,hxk,hv];refine ql_of_qops ?_;push_cast [iO,tN,hxk,hv]))|((first|refine pC ?_|refine pQC ?_|refine pU ?_);push_cast [iO,tN,hxk,hv])|(refine pif (fun h=>?_) (fun h=>?_)<;>first|exact pN h|push_cast [iO,tN,hxk,hv]))
     exact ⟨k+1,⟨by omega,hpre2⟩,by (refine weak_fg ?_;push_cast [iO,tN]),by omega⟩
   ·rw [decide_eq_false hv,Bool.false_and] at hgo hall
    have hpre2:=hgo rfl
    repeat' (first|((refine ql_call2 false rfl rfl (by kernel_rfl) (hm) (fun r os h=>h.1) rfl ?_ ?_;push_cast [iO,tN,hxk,hv];refine ql_of_qops ?_;push_cast [iO,tN,hxk,hv]))|((first|refine pC ?_|refine pQC ?_|refine pU ?_);push_cast [iO,tN,hxk,hv])|(refine pif (fun h=>?_) (fun h=>?_)<;>first|exact pN h|push_cast [iO,tN,hxk,hv]))
    exact ⟨k+1,⟨by omega,hpre2⟩,by (refine weak_fg ?_;push_cast [iO,tN]),by omega⟩
  ·have hk2:k=c.extra.length:=by omega
   rw [hk2,List.take_length] at hpre
   have hR2:=hR.trans hpre
   repeat' (first|((first|refine pC ?_|refine pQC ?_|refine pU ?_);push_cast [iO,tN])|(refine pif (fun h=>?_) (fun h=>?_)<;>first|exact pN h|push_cast [iO,tN]))
   (refine retK_of [] ?_;push_cast [iO,tN,hR2])
 | true =>
  cases b2 with
  | false=>cases h2
  | true =>
   repeat' (first|((refine plc [] (hms) ?_ ?_;push_cast [iO,tN,h0];rintro r os ⟨rfl,rfl⟩;push_cast [iO,tN,h0]))|((refine plc [] (hin) ?_ ?_;push_cast [iO,tN,h0];rintro r os ⟨rfl,rfl⟩;push_cast [iO,tN,h0]))|((first|refine pC ?_|refine pQC ?_|refine pU ?_);push_cast [iO,tN,h0])|(refine pif (fun h=>?_) (fun h=>?_)<;>first|exact pN h|push_cast [iO,tN,h0]))
   (apply pwp_loop3 (α:=Nat) 8 [20,46] (fun k=>[(7,.c (.v (.int .i64 k)))]) (fun k=>[]) (fun k=>k≤c.extra.length∧(c.extra.take k).any q=false) (fun k=>c.extra.length - k) (0);(focus ((try push_cast [iO,tN]);rfl));(focus exact ⟨by omega,rfl⟩);(focus ((refine weak_fg ?_;try push_cast [iO,tN]))))
   rintro k ⟨hk,hpre⟩
   push_cast [iO,tN]
   by_cases hlt:k < c.extra.length
   ·have hxm:c.extra.getD k default ∈ c.extra:=by rw [getD_lt _ hlt];exact List.getElem_mem _
    obtain ⟨x,hxk⟩:∃ x,c.extra.getD k default=x:=⟨_,rfl⟩
    have hgo:=anyAt_go (p:=q) hlt hpre
    have hall:=anyAt_all (p:=q) hlt
    rw [hxk] at hgo hall hxm
    rw [hqx] at hgo hall
    have hm:=gmatch_pure x.name s (by have:=hxz x hxm;omega) hs
    by_cases hv:x.value=m.name
    ·rw [decide_eq_true hv,Bool.true_and] at hgo hall
     cases hb:matchM x.name s with
     | true =>
      have hR2:=hR.trans (hall hb)
      rw [hb] at hm
      repeat' (first|((refine ql_call2 false rfl rfl (by kernel_rfl) (hm) (fun r os h=>h.1) rfl ?_ ?_;push_cast [iO,tN,hxk,hv];refine ql_of_qops ?_;push_cast [iO,tN,hxk,hv]))|((first|refine pC ?_|refine pQC ?_|refine pU ?_);push_cast [iO,tN,hxk,hv])|(refine pif (fun h=>?_) (fun h=>?_)<;>first|exact pN h|push_cast [iO,tN,hxk,hv]))
      (refine retK_of [] ?_;push_cast [iO,tN,hR2])
     | false =>
      have hpre2:=hgo hb
      rw [hb] at hm
      repeat' (first|((refine ql_call2 false rfl rfl (by kernel_rfl) (hm) (fun r os h=>h.1) rfl ?_ ?_;push_cast [iO,tN,hxk,hv];refine ql_of_qops ?_;push_cast [iO,tN,hxk,hv]))|((first|refine pC ?_|refine pQC ?_|refine pU ?_);push_cast [iO,tN,hxk,hv])|(refine pif (fun h=>?_) (fun h=>?_)<;>first|exact pN h|push_cast [iO,tN,hxk,hv]))
      exact ⟨k+1,⟨by omega,hpre2⟩,by (refine weak_fg ?_;push_cast [iO,tN]),by omega⟩
    ·rw [decide_eq_false hv,Bool.false_and] at hgo hall
     have hpre2:=hgo rfl
     repeat' (first|((refine ql_call2 false rfl rfl (by kernel_rfl) (hm) (fun r os h=>h.1) rfl ?_ ?_;push_cast [iO,tN,hxk,hv];refine ql_of_qops ?_;push_cast [iO,tN,hxk,hv]))|((first|refine pC ?_|refine pQC ?_|refine pU ?_);push_cast [iO,tN,hxk,hv])|(refine pif (fun h=>?_) (fun h=>?_)<;>first|exact pN h|push_cast [iO,tN,hxk,hv]))
     exact ⟨k+1,⟨by omega,hpre2⟩,by (refine weak_fg ?_;push_cast [iO,tN]),by omega⟩
   ·have hk2:k=c.extra.length:=by omega
    rw [hk2,List.take_length] at hpre
    have hR2:=hR.trans hpre
    repeat' (first|((first|refine pC ?_|refine pQC ?_|refine pU ?_);push_cast [iO,tN])|(refine pif (fun h=>?_) (fun h=>?_)<;>first|exact pN h|push_cast [iO,tN]))
    (refine retK_of [] ?_;push_cast [iO,tN,hR2])
structure FindOk (c:Cfg):Prop where
 mods:c.modules.length≤1000
 als:∀ m ∈ c.modules,m.aliases.length≤1000000
 alz:∀ m ∈ c.modules,∀ p ∈ m.aliases,p.size≤1000000000
 bl:c.blocked.length≤1000000
 ext:c.extra.length≤1000000
 exz:∀ x ∈ c.extra,x.name.size≤1000000000
theorem filtN_next {c:Cfg} {s:ByteArray} {k:Nat} (hk:k < c.modules.length):putAll [] (((c.modules.take (k+1)).filter (foundR c s)).map Mod.name)=if foundR c s (c.modules.getD k default)=true then putM (putAll [] (((c.modules.take k).filter (foundR c s)).map Mod.name)) (c.modules.getD k default).name else putAll [] (((c.modules.take k).filter (foundR c s)).map Mod.name):=by
 rw [List.take_succ_eq_append_getElem hk,List.filter_append,List.map_append,getD_lt _ hk]
 by_cases h:foundR c s c.modules[k]=true
 ·rw [if_pos h,List.filter_cons_of_pos h,List.filter_nil,List.map_cons,List.map_nil,putAll_snoc]
 ·rw [if_neg h,List.filter_cons_of_neg h,List.filter_nil,List.map_nil,List.append_nil]
set_option maxHeartbeats 4000000 in
theorem rfind18_pure (c:Cfg) (s:ByteArray) (hc:FindOk c) (hs:s.size≤9000000000000000000) :
  PCalls Try.prog 11 [.agg c.e,.c (.v (.string s))] [] fun r os=>r = .c (.sl 1 ((findA c s).map strD))∧os=[]:=by
 have hcm:=hc.mods
 rw [← find_same]
 unfold findR
 refine pcalls_of Try.func11 rfl (by simp [Try.ntmps11]) ?_
 rw [Try.ntmps11,Try.results11]
 push_cast [iO,tN]
 have cB:CutB 7 [21]:=trivial
 repeat' (first|((first|refine pC ?_|refine pQC ?_|refine pU ?_);push_cast [iO,tN])|(refine pif (fun h=>?_) (fun h=>?_)<;>first|exact pN h|push_cast [iO,tN]))
 (apply pwp_loop3 (α:=Nat) 7 [21] (fun k=>[(6,.c (.v (.int .i64 k))),(5,.c (.sl 1 ((putAll [] (((c.modules.take k).filter (foundR c s)).map Mod.name)).map strD)))]) (fun k=>[]) (fun k=>k≤c.modules.length) (fun k=>c.modules.length - k) (0);(focus ((try push_cast [iO,tN]);rfl));(focus exact (by omega));(focus ((refine weak_fg ?_;try push_cast [iO,tN]);(try (rfl)))))
 intro k hk
 by_cases hlt:k < c.modules.length
 ·have hnx:=filtN_next (s:=s) hlt
  have hmm:c.modules.getD k default ∈ c.modules:=by rw [getD_lt _ hlt];exact List.getElem_mem _
  obtain ⟨m,hm⟩:∃ m,c.modules.getD k default=m:=⟨_,rfl⟩
  have hol:(putAll [] (((c.modules.take k).filter (foundR c s)).map Mod.name)).length≤1000:=by
   have h1:=(putAll_spec (((c.modules.take k).filter (foundR c s)).map Mod.name) [] List.Pairwise.nil).2.2.2.2
   rw [List.length_map] at h1
   have h2:=List.length_filter_le (foundR c s) (c.modules.take k)
   rw [List.length_take] at h2
   simp only [List.length_nil] at h1
   omega
  obtain ⟨o,ho⟩:∃ o,putAll [] (((c.modules.take k).filter (foundR c s)).map Mod.name)=o:=⟨_,rfl⟩
  rw [hm,ho] at hnx
  rw [hm] at hmm
  rw [ho] at hol ⊢
  have hf:=rfound_pure c m s (hc.als m hmm) (hc.alz m hmm) hs hc.bl hc.ext hc.exz
  have hp:=put_pure o m.name (by omega)
  push_cast [iO,tN]
  cases hb:foundR c s m with
  | true =>
   rw [hb] at hf
   rw [if_pos hb] at hnx
   repeat' (first|((refine ql_call2 false rfl rfl (by kernel_rfl) (hf) (fun r os h=>h.1) rfl ?_ ?_;push_cast [iO,tN,hm];refine ql_of_qops ?_;push_cast [iO,tN,hm]))|((refine plc [] (hp) ?_ ?_;push_cast [iO,tN,hm];rintro r os ⟨rfl,rfl⟩;push_cast [iO,tN,hm]))|((first|refine pC ?_|refine pQC ?_|refine pU ?_);push_cast [iO,tN,hm])|(refine pif (fun h=>?_) (fun h=>?_)<;>first|exact pN h|push_cast [iO,tN,hm]))
   exact ⟨k+1,by omega,by (refine weak_fg ?_;push_cast [iO,tN,hnx]),by omega⟩
  | false =>
   rw [hb] at hf
   rw [if_neg (by simp [hb])] at hnx
   repeat' (first|((refine ql_call2 false rfl rfl (by kernel_rfl) (hf) (fun r os h=>h.1) rfl ?_ ?_;push_cast [iO,tN,hm];refine ql_of_qops ?_;push_cast [iO,tN,hm]))|((first|refine pC ?_|refine pQC ?_|refine pU ?_);push_cast [iO,tN,hm])|(refine pif (fun h=>?_) (fun h=>?_)<;>first|exact pN h|push_cast [iO,tN,hm]))
   exact ⟨k+1,by omega,by (refine weak_fg ?_;push_cast [iO,tN,hnx]),by omega⟩
 ·have htk:c.modules.take k=c.modules:=List.take_of_length_le (by omega)
  rw [htk]
  obtain ⟨o,ho⟩:∃ o,putAll [] ((c.modules.filter (foundR c s)).map Mod.name)=o:=⟨_,rfl⟩
  rw [ho]
  push_cast [iO,tN]
  repeat' (first|((first|refine pC ?_|refine pQC ?_|refine pU ?_);push_cast [iO,tN])|(refine pif (fun h=>?_) (fun h=>?_)<;>first|exact pN h|push_cast [iO,tN]))
  (refine retK_of [] ?_;push_cast [iO,tN])
end Go.Proofs.Ythhfpcbpiphfiaa
