/- What the program computes, and the plain laws of it, part 43. -/
import Derived.Test.YthconflkbeipoaaGreatDoorS38
import Derived.Test.YthconflkbeipoaaGreatDoorS42
namespace Go.Proofs.YthconflkbeipoaaGreatDoor
attribute [local irreducible] PL QL PWPr PCalls Weak RetK Kontr PA
open Go.RowKit
open IntWalk renaming iteOmega → iO, toNatUp → tN
set_option linter.unusedVariables false
set_option linter.unusedSimpArgs false
set_option maxRecDepth 20000
def maxK (l:List Wsh) (i:Nat):Nat:=maxR (l.take i)
def allK2 (l:List Wsh) (i:Nat):List ByteArray:=allA (l.take i)
theorem maxK_succ {l:List Wsh} {i:Nat} (h:i < l.length):maxK l (i+1)=max (maxK l i) (l.getD i default).names.length:=by
 unfold maxK maxR
 rw [List.take_succ_eq_append_getElem h,List.foldl_append,getD_lt l h]
 rfl
theorem allK2_succ {l:List Wsh} {i:Nat} (h:i < l.length):allK2 l (i+1)=allK2 l i++(l.getD i default).names:=by
 unfold allK2 allA
 rw [List.take_succ_eq_append_getElem h,List.flatMap_append,List.flatMap_singleton,getD_lt l h]
theorem maxK_all (l:List Wsh):maxK l l.length=maxR l:=by unfold maxK;rw [List.take_length]
theorem allK2_all (l:List Wsh):allK2 l l.length=allA l:=by unfold allK2;rw [List.take_length]
theorem maxK_le (l:List Wsh) {B:Nat} (h:∀ w ∈ l,w.names.length≤B) (i:Nat):maxK l i≤B:=maxR_le fun w hw=>h w (List.mem_of_mem_take hw)
theorem allK2_len (l:List Wsh) (i:Nat):(allK2 l i).length≤(allA l).length:=by
 have h:allA l=allK2 l i++allA (l.drop i):=by
  unfold allK2 allA
  rw [← List.flatMap_append,List.take_append_drop]
 rw [h,List.length_append]
 omega
theorem run_nd (l:List Wsh) (ps:List (Nat × ByteArray)):(runA l ps).2.Nodup:=by
 have key:∀ (ps:List (Nat × ByteArray)) (st:AsgS),st.2.Nodup → (ps.foldl stepW st).2.Nodup:=by
  intro ps
  induction ps with
  | nil=>intro st h;exact h
  | cons p ps ih =>
   intro st h
   refine ih _ ?_
   unfold stepW
   split
   ·exact nodup_addS h
   ·exact h
 exact key ps _ List.nodup_nil
theorem asg_taken {l:List Wsh} {r k:Nat} {st:AsgS} (h:AsgI l r k st) (hn:st.2.Nodup):st.2.length≤l.length:=by
 rw [← h.len]
 refine nodup_sub_len hn fun s hs=>?_
 obtain ⟨_,i,hi,rfl⟩:=h.tk s hs
 rw [getD_lt _ (by rw [h.len];exact hi)]
 exact List.getElem_mem _
theorem run_taken {l:List Wsh} (hok:wshOk l=true) (r:Nat) {k:Nat} (hk:k≤l.length):(runA l (prsL l r++rankK l r k)).2.length≤l.length:=asg_taken (run_rank hok r _ (run_all hok r) k hk) (run_nd l _)
theorem run_taken0 {l:List Wsh} (hok:wshOk l=true) (r:Nat):(runA l (prsL l r)).2.length≤l.length:=asg_taken (run_all hok r) (run_nd l _)
theorem fillR_len (all:List ByteArray) (st:AsgS):∀ k,(fillRK all st k).1.length=st.1.length∧(fillRK all st k).2.length≤st.2.length+k
 | 0=>⟨rfl,Nat.le_refl _⟩
 | k+1=>by
  obtain ⟨h1,h2⟩:=fillR_len all st k
  rw [fillRK_succ]
  unfold fillR
  split
  ·simp only [List.length_set,List.length_append,List.length_singleton]
   exact ⟨h1,by omega⟩
  ·exact ⟨h1,by omega⟩
theorem fillR_fresh {l:List Wsh} (hok:wshOk l=true) (hfew:FewW l) {k:Nat} (hk:k < l.length):freshN ((fillRK (allA l) (runA l (prsL l (maxR l))) k).2++allA l) 0≤98:=by
 have hA:=run_all hok (maxR l)
 have hW:∀ s,s ∈ wantA2 l ↔ s ∈ allA l:=fun s=>allA_mem.symm
 obtain ⟨h1,h2,h3⟩:=fillR_same (W:=wantA2 l) (all:=allA l) (st:=runA l (prsL l (maxR l))) hW (fun s hs=>by
  obtain ⟨h1,i,h2,h3⟩:=hA.tk s hs
  obtain ⟨q,_,h4,h5,_⟩:=hA.src i h2 (by rw [h3];exact h1)
  rw [allA_mem,wantA2_mem]
  exact ⟨i,q,h2,h4,by rw [h5,h3]⟩) k
 have hf:=hfew k hk
 have hv:(runA l (prsL l (maxR l))).1=valsA l:=rfl
 rw [hv] at h1 h2 h3
 obtain ⟨a,ha⟩:∃ a,fillRK (allA l) (runA l (prsL l (maxR l))) k=a:=⟨_,rfl⟩
 obtain ⟨b,hb⟩:∃ b,fillWK (wantA2 l) (valsA l) k=b:=⟨_,rfl⟩
 rw [ha,hb] at h1
 rw [ha,hb] at h3
 rw [ha,hb] at h2
 rw [hb] at hf
 rw [ha]
 have hge:=fresh_ge (wantA2 l) b.2
 have hnW:=fresh_not (wantA2 l) b.2
 have hfr:freshN (a.2++allA l) 0=freshN (wantA2 l) b.2:=by
  refine fresh_uniq (Nat.zero_le _) ?_ fun j _ hj=>?_
  ·rw [inM_false,List.mem_append]
   rintro (hm|hm)
   ·rcases h3 _ hm with hm|⟨j,hj,he⟩
    ·rw [inM_false] at hnW;exact hnW ((hW _).2 hm)
    ·have:=ifN_inj he;omega
   ·rw [inM_false] at hnW;exact hnW ((hW _).2 hm)
  ·by_cases hlt:j < b.2
   ·exact h2 j hlt
   ·have:=fresh_mid (wantA2 l) (n:=b.2) (m:=j) (by omega) hj
    rw [inM_iff] at this ⊢
    exact List.mem_append_right _ ((hW _).1 this)
 rw [hfr]
 exact hf
theorem nmR_end {l:List Wsh} (hok:wshOk l=true):nmK l l.length (fillRK (allA l) (runA l (prsL l (maxR l))) l.length).1=assignA l:=by
 have h:(fillRK (allA l) (runA l (prsL l (maxR l))) l.length).1=namedA l:=namedR_eq hok
 rw [h]
 rcases nmK_end l with h1|h1
 ·exact h1
 ·exact absurd (named_spec hok).len h1
theorem inM_app (s:ByteArray) (a b:List ByteArray):inM s (a++b)=(inM s a || inM s b):=by
 rw [Bool.eq_iff_iff,inM_iff,List.mem_append,Bool.or_eq_true,inM_iff,inM_iff]
def runK (l:List Wsh) (r k:Nat):AsgS:=runA l (prsL l r++rankK l r k)
def runR (l:List Wsh) (r:Nat):AsgS:=runA l (prsL l r)
theorem runK_zero (l:List Wsh) (r:Nat):runK l r 0=runR l r:=by unfold runK runR;rw [rankK_zero,List.append_nil]
theorem runK_all (l:List Wsh) (r:Nat):runK l r l.length=runR l (r+1):=by unfold runK runR;rw [prsL_succ]
theorem runK_f {l:List Wsh} {r k:Nat} (h:¬ r < (l.getD k default).names.length):runK l r (k+1)=runK l r k:=by unfold runK;rw [rankK_f h]
theorem runK_t {l:List Wsh} {r k:Nat} (h:r < (l.getD k default).names.length):runK l r (k+1)=stepW (runK l r k) (k,(l.getD k default).names.getD r default):=by unfold runK;rw [rankK_t h,← List.append_assoc,runA_snoc]
def fillK3 (l:List Wsh) (k:Nat):AsgS:=fillRK (allA l) (runR l (maxR l)) k
theorem fillK3_succ (l:List Wsh) (k:Nat):fillK3 l (k+1)=fillR (allA l) (fillK3 l k) k:=fillRK_succ _ _ k
theorem fillR_ne {all:List ByteArray} {b:AsgS} {k:Nat} (hk:k < b.1.length):(fillR all b k).1.getD k default≠⟨#[]⟩:=by
 unfold fillR
 split
 ·simp only
  rw [getD_set_eq hk]
  exact ifN_ne _
 ·rename_i h
  exact h
set_option maxHeartbeats 16000000 in
theorem rassign_ok (l:List Wsh) (h:WshFit l) (hok:wshOk l=true) (hfew:FewW l) (hall:(allA l).length≤1000000) :
  PCalls Tryz.prog 15 [.c (.sl 2 (l.map Wsh.d))] [] fun r os=>r = .two (.c (.own 0 l.length)) (.c (.v (.int .i64 0)))∧os=[.arr 33 2 ((assignA l).map Atr.d)]:=by
 have hlen:=h.len
 have hv:=rvalid23_pure l h
 rw [hok] at hv
 have hrep:=replicate_nm l l.length
 have hmx:=maxR_le h.cnt
 refine pcalls_of Tryz.func15 rfl (by simp [Tryz.ntmps15]) ?_
 rw [Tryz.ntmps15,Tryz.results15]
 push_cast [iO,tN]
 have cB:CutB 14 []:=trivial
 repeat' (first |  ((refine plc [] (hv) ?_ ?_;push_cast [iO,tN];rintro r os ⟨rfl,rfl⟩;push_cast [iO,tN]))|(refine pl_makeR (n:=l.length) (kx:=.i64) (kz:=.i64) (by':=32) (e:=33) (sz:=2) (zs:=[.v (.string ⟨#[]⟩),.v (.string ⟨#[]⟩)]) (ds:=[.v (.string ⟨#[]⟩),.v (.string ⟨#[]⟩)]) rfl rfl (by push_cast [iO,tN]) rfl (by kernel_rfl) (by kernel_rfl) rfl rfl (by omega) (by push_cast [iO,tN]) (by push_cast [iO,tN]) (by omega) (by omega) ?_;push_cast [iO,tN,hrep];refine pl_of_pops ?_;push_cast [iO,tN,hrep])|(refine pwp_seq fun K hK=>?_)|(refine pwp_block ?_)  | ((first|refine pC ?_|refine pQC ?_|refine pU ?_);push_cast [iO,tN])|(refine pif (fun h=>?_) (fun h=>?_)<;>first|exact pN h|push_cast [iO,tN]))
 refine pwp_weak (weak_adopt 5 9 1 (by omega) (by push_cast [iO,tN])) ?_
 push_cast [iO,tN]
 refine pwp_weak (weak_adopt 6 9 1 (by omega) (by push_cast [iO,tN])) ?_
 push_cast [iO,tN]
 (apply pwp_loop3 (α:=Nat) 14 [] (fun i=>[(8,.c (.v (.int .i64 i))),(4,.c (.v (.int .i64 ((maxK l i:Nat))))),(5,.c (.own 1 (allK2 l i).length))]) (fun i=>[(0,.arr 33 2 ((nmK l i (List.replicate l.length ⟨#[]⟩)).map Atr.d)),(1,.arr 9 1 ((allK2 l i).map strD))]) (fun i=>i≤l.length) (fun i=>l.length - i) (0);(focus ((try push_cast [iO,tN]);rfl));(focus exact (Nat.zero_le _));(focus ((refine weak_fg ?_;try push_cast [iO,tN]);(try (exact ⟨⟨rfl,rfl⟩,rfl⟩)))))
 intro i hi
 push_cast [iO,tN]
 have hrl:(List.replicate l.length (⟨#[]⟩:ByteArray)).length=l.length:=by simp
 by_cases hlt:i < l.length
 case pos =>
  obtain ⟨w,hw⟩:∃ w,l.getD i default=w:=⟨_,rfl⟩
  have hwm:w ∈ l:=by rw [← hw,getD_lt l hlt];exact List.getElem_mem _
  have hcn:=h.cnt w hwm
  have hmk:=maxK_succ hlt
  have hak:=allK2_succ hlt
  rw [hw] at hmk hak
  have hml:=maxK_le l h.cnt i
  have hal:=allK2_len l (i+1)
  rw [hak,List.length_append] at hal
  have hnl:=nmK_len l i (List.replicate l.length (⟨#[]⟩:ByteArray))
  have hsn:=nmK_setn l (k:=i) (vs:=List.replicate l.length (⟨#[]⟩:ByteArray)) (by rw [hrl];exact hlt)
  rw [hw] at hsn
  have hX:((nmK l i (List.replicate l.length ⟨#[]⟩)).map Atr.d).set i [.v (.string w.path),.v (.string ((nmK l i (List.replicate l.length ⟨#[]⟩)).getD i default).value)]=(nmK l (i+1) (List.replicate l.length ⟨#[]⟩)).map Atr.d:=by rw [← hsn,List.map_set];rfl
  obtain ⟨al,hal0⟩:∃ al,allK2 l i=al:=⟨_,rfl⟩
  obtain ⟨mk,hmk0⟩:∃ mk,maxK l i=mk:=⟨_,rfl⟩
  rw [hal0] at hak hal ⊢
  rw [hmk0] at hmk hml ⊢
  repeat' (first|((first|refine pC ?_|refine pQC ?_|refine pU ?_);push_cast [iO,tN,hw,hnl,hrl,hX])|(refine pif (fun h=>?_) (fun h=>?_)<;>first|exact pN h|push_cast [iO,tN,hw,hnl,hrl,hX]))
  exact ⟨i+1,by omega,by ((refine weak_fg ?_;push_cast [iO,tN,hmk,hak,hX]);split<;>omega),by omega⟩
 have hi2:i=l.length:=by omega
 subst hi2
 rw [maxK_all,allK2_all]
 repeat' (first|((first|refine pC ?_|refine pQC ?_|refine pU ?_);push_cast [iO,tN])|(refine pif (fun h=>?_) (fun h=>?_)<;>first|exact pN h|push_cast [iO,tN]))
 (apply pwp_loop3 (α:=Nat) 14 [] (fun r=>[(9,.c (.v (.int .i64 r))),(6,.c (.own 2 (runR l r).2.length))]) (fun r=>[(0,.arr 33 2 ((nmK l l.length (runR l r).1).map Atr.d)),(2,.arr 9 1 ((runR l r).2.map strD))]) (fun r=>r≤maxR l) (fun r=>maxR l - r) (0);(focus ((try push_cast [iO,tN]);rfl));(focus exact (Nat.zero_le _));(focus ((refine weak_fg ?_;try push_cast [iO,tN]);(try (exact ⟨rfl,rfl,rfl⟩)))))
 intro r hr
 push_cast [iO,tN]
 by_cases hrt:r < maxR l
 case pos =>
  repeat' (first|((first|refine pC ?_|refine pQC ?_|refine pU ?_);push_cast [iO,tN])|(refine pif (fun h=>?_) (fun h=>?_)<;>first|exact pN h|push_cast [iO,tN]))
  (apply pwp_loop3 (α:=Nat) 14 [] (fun k=>[(10,.c (.v (.int .i64 k))),(6,.c (.own 2 (runK l r k).2.length))]) (fun k=>[(0,.arr 33 2 ((nmK l l.length (runK l r k).1).map Atr.d)),(2,.arr 9 1 ((runK l r k).2.map strD))]) (fun k=>k≤l.length) (fun k=>l.length - k) (0);(focus ((try push_cast [iO,tN]);rfl));(focus exact (Nat.zero_le _));(focus ((refine weak_fg ?_;try push_cast [iO,tN]);(try (simp [runK_zero])))))
  intro k hk
  push_cast [iO,tN]
  by_cases hkt:k < l.length
  case neg =>
   have hk2:k=l.length:=by omega
   subst hk2
   rw [runK_all]
   repeat' (first|((first|refine pC ?_|refine pQC ?_|refine pU ?_);push_cast [iO,tN])|(refine pif (fun h=>?_) (fun h=>?_)<;>first|exact pN h|push_cast [iO,tN]))
   exact ⟨r+1,by omega,by (refine weak_fg ?_;push_cast [iO,tN]),by omega⟩
  obtain ⟨w,hw⟩:∃ w,l.getD k default=w:=⟨_,rfl⟩
  have hwm:w ∈ l:=by rw [← hw,getD_lt l hkt];exact List.getElem_mem _
  have hcn:=h.cnt w hwm
  have htl:=run_taken hok r (k:=k) hk
  have hkf:=runK_f (l:=l) (r:=r) (k:=k)
  have hkt2:=runK_t (l:=l) (r:=r) (k:=k)
  have hsl:(runK l r k).1.length=l.length:=runA_len l _
  have htl:(runK l r k).2.length≤l.length:=htl
  rw [hw] at hkf hkt2
  obtain ⟨st,hst⟩:∃ st,runK l r k=st:=⟨_,rfl⟩
  rw [hst] at hkf hkt2 hsl htl ⊢
  have hg:=nmK_get l l.length (vs:=st.1) (j:=k) (by omega)
  rw [if_pos hkt,hw] at hg
  have hnl:=nmK_len l l.length st.1
  obtain ⟨v,hv2⟩:∃ v,st.1.getD k default=v:=⟨_,rfl⟩
  rw [hv2] at hg
  by_cases hrk:r < w.names.length
  case neg =>
   have hn:=hkf hrk
   by_cases hc1:v=⟨#[]⟩
   ·repeat' (first|((first|refine pC ?_|refine pQC ?_|refine pU ?_);push_cast [iO,tN,hw,hg,hnl,hsl,hc1,hrk])|(refine pif (fun h=>?_) (fun h=>?_)<;>first|exact pN h|push_cast [iO,tN,hw,hg,hnl,hsl,hc1,hrk]))
    exact ⟨k+1,by omega,by (refine weak_fg ?_;push_cast [iO,tN,hn]),by omega⟩
   ·repeat' (first|((first|refine pC ?_|refine pQC ?_|refine pU ?_);push_cast [iO,tN,hw,hg,hnl,hsl,hc1])|(refine pif (fun h=>?_) (fun h=>?_)<;>first|exact pN h|push_cast [iO,tN,hw,hg,hnl,hsl,hc1]))
    exact ⟨k+1,by omega,by (refine weak_fg ?_;push_cast [iO,tN,hn]),by omega⟩
  have hn:=hkt2 hrk
  obtain ⟨s,hs⟩:∃ s,w.names.getD r default=s:=⟨_,rfl⟩
  rw [hs] at hn
  by_cases hc1:v=⟨#[]⟩
  case neg =>
   rw [stepW_no (fun h=>hc1 (by rw [← hv2];exact h.1))] at hn
   repeat' (first|((first|refine pC ?_|refine pQC ?_|refine pU ?_);push_cast [iO,tN,hw,hg,hnl,hsl,hc1])|(refine pif (fun h=>?_) (fun h=>?_)<;>first|exact pN h|push_cast [iO,tN,hw,hg,hnl,hsl,hc1]))
   exact ⟨k+1,by omega,by (refine weak_fg ?_;push_cast [iO,tN,hn]),by omega⟩
  have hin:=rin5_pure st.2 s (by omega)
  cases hc3:inM s st.2 with
  | true =>
   rw [stepW_no (fun h=>by rw [hc3] at h;cases h.2)] at hn
   rw [hc3] at hin
   repeat' (first|((refine pl_call2 true [] rfl rfl (by kernel_rfl) (hin) ?_ ?_ ?_;push_cast [iO,tN,hw,hg,hnl,hsl,hc1,hrk,hs];(intro _ r os;rintro ⟨rfl,rfl⟩;push_cast [iO,tN,hw,hg,hnl,hsl,hc1,hrk,hs]);rintro r os ⟨rfl,rfl⟩;refine pl_of_pops ?_;push_cast [iO,tN,hw,hg,hnl,hsl,hc1,hrk,hs]))|((first|refine pC ?_|refine pQC ?_|refine pU ?_);push_cast [iO,tN,hw,hg,hnl,hsl,hc1,hrk,hs])|(refine pif (fun h=>?_) (fun h=>?_)<;>first|exact pN h|push_cast [iO,tN,hw,hg,hnl,hsl,hc1,hrk,hs]))
   exact ⟨k+1,by omega,by (refine weak_fg ?_;push_cast [iO,tN,hn]),by omega⟩
  | false =>
   have hadd:addS st.2 s=st.2++[s]:=by unfold addS;rw [hc3];rfl
   rw [stepW_yes (by rw [hv2];exact hc1) hc3,hadd] at hn
   rw [hc3] at hin
   have hY:((nmK l l.length st.1).map Atr.d).set k [.v (.string w.path),.v (.string s)]=(nmK l l.length (st.1.set k s)).map Atr.d:=by
    rw [← nmK_setv l l.length (show k < st.1.length by omega),hg,List.map_set];rfl
   have hg2:=nmK_get l l.length (vs:=st.1.set k s) (j:=k) (by rw [List.length_set];omega)
   rw [if_pos hkt,hw,getD_set_eq (show k < st.1.length by omega)] at hg2
   have hnl2:=nmK_len l l.length (st.1.set k s)
   have hsl2:(st.1.set k s).length=l.length:=by rw [List.length_set];exact hsl
   repeat' (first|((refine pl_call2 true [] rfl rfl (by kernel_rfl) (hin) ?_ ?_ ?_;push_cast [iO,tN,hw,hg,hnl,hsl,hc1,hrk,hs,hY,hg2,hnl2,hsl2];(intro _ r os;rintro ⟨rfl,rfl⟩;push_cast [iO,tN,hw,hg,hnl,hsl,hc1,hrk,hs,hY,hg2,hnl2,hsl2]);rintro r os ⟨rfl,rfl⟩;refine pl_of_pops ?_;push_cast [iO,tN,hw,hg,hnl,hsl,hc1,hrk,hs,hY,hg2,hnl2,hsl2]))|((first|refine pC ?_|refine pQC ?_|refine pU ?_);push_cast [iO,tN,hw,hg,hnl,hsl,hc1,hrk,hs,hY,hg2,hnl2,hsl2])|(refine pif (fun h=>?_) (fun h=>?_)<;>first|exact pN h|push_cast [iO,tN,hw,hg,hnl,hsl,hc1,hrk,hs,hY,hg2,hnl2,hsl2]))
   exact ⟨k+1,by omega,by (refine weak_fg ?_;push_cast [iO,tN,hn]),by omega⟩
 have hr2:r=maxR l:=by omega
 subst hr2
 repeat' (first|((first|refine pC ?_|refine pQC ?_|refine pU ?_);push_cast [iO,tN])|(refine pif (fun h=>?_) (fun h=>?_)<;>first|exact pN h|push_cast [iO,tN]))
 (apply pwp_loop3 (α:=Nat) 14 [] (fun k=>[(11,.c (.v (.int .i64 k))),(6,.c (.own 2 (fillK3 l k).2.length))]) (fun k=>[(0,.arr 33 2 ((nmK l l.length (fillK3 l k).1).map Atr.d)),(2,.arr 9 1 ((fillK3 l k).2.map strD))]) (fun k=>k≤l.length) (fun k=>l.length - k) (0);(focus ((try push_cast [iO,tN]);rfl));(focus exact (Nat.zero_le _));(focus ((refine weak_fg ?_;try push_cast [iO,tN]);(try (exact ⟨rfl,rfl,rfl⟩)))))
 intro k hk
 push_cast [iO,tN]
 have hfl:(fillK3 l k).1.length=l.length∧(fillK3 l k).2.length≤l.length+k:=by
  have h1:=fillR_len (allA l) (runR l (maxR l)) k
  have h2:=run_taken0 hok (maxR l)
  have h3:(runR l (maxR l)).1.length=l.length:=runA_len l _
  refine ⟨h1.1.trans h3,Nat.le_trans h1.2 (Nat.add_le_add_right h2 k)⟩
 by_cases hkt:k < l.length
 case neg =>
  have hk2:k=l.length:=by omega
  subst hk2
  have hfin:nmK l l.length (fillK3 l l.length).1=assignA l:=nmR_end hok
  have hal:(assignA l).length=l.length:=by unfold assignA;simp
  rw [hfin]
  repeat' (first|((first|refine pC ?_|refine pQC ?_|refine pU ?_);push_cast [iO,tN])|(refine pif (fun h=>?_) (fun h=>?_)<;>first|exact pN h|push_cast [iO,tN]))
  (refine retK_of [0] ?_;push_cast [iO,tN])
 have hfr:freshN ((fillK3 l k).2++allA l) 0≤98:=fillR_fresh hok hfew hkt
 have hnx:=fillK3_succ l k
 obtain ⟨w,hw⟩:∃ w,l.getD k default=w:=⟨_,rfl⟩
 obtain ⟨b,hb⟩:∃ b,fillK3 l k=b:=⟨_,rfl⟩
 rw [hb] at hfl hfr hnx ⊢
 obtain ⟨hbl,hbl2⟩:=hfl
 have hkb:k < b.1.length:=by omega
 have hne:=fillR_ne (all:=allA l) (b:=b) hkb
 have hff:(fillR (allA l) b k).1.length=l.length∧(fillR (allA l) b k).2.length≤l.length+k+1:=by
  unfold fillR
  split
  ·simp only [List.length_set,List.length_append,List.length_singleton]
   exact ⟨hbl,by omega⟩
  ·exact ⟨hbl,by omega⟩
 obtain ⟨b2,hb2⟩:∃ b2,fillR (allA l) b k=b2:=⟨_,rfl⟩
 rw [hb2] at hne hff hnx
 obtain ⟨hff1,hff2⟩:=hff
 have hg:=nmK_get l l.length (vs:=b.1) (j:=k) hkb
 rw [if_pos hkt,hw] at hg
 have hnl:=nmK_len l l.length b.1
 have hg2:=nmK_get l l.length (vs:=b2.1) (j:=k) (by omega)
 rw [if_pos hkt,hw] at hg2
 have hnl2:=nmK_len l l.length b2.1
 obtain ⟨W,hW⟩:∃ W,b.2++allA l=W:=⟨_,rfl⟩
 rw [hW] at hfr
 have hini:(if (!decide (b.1.getD k default=⟨#[]⟩))=true then b2 else b)=b:=by
  by_cases hc:b.1.getD k default=⟨#[]⟩
  ·rw [decide_eq_true hc];rfl
  ·rw [decide_eq_false hc,← hb2]
   unfold fillR
   rw [if_neg hc]
   rfl
 have hy0:(!decide (b.1.getD k default=⟨#[]⟩))=false → b.1.getD k default=⟨#[]⟩:=fun hx=>by simpa using hx
 obtain ⟨y0,hy00⟩:∃ y0,(!decide (b.1.getD k default=⟨#[]⟩))=y0:=⟨_,rfl⟩
 rw [hy00] at hini hy0
 repeat' (first|((first|refine pC ?_|refine pQC ?_|refine pU ?_);push_cast [iO,tN])|(refine pif (fun h=>?_) (fun h=>?_)<;>first|exact pN h|push_cast [iO,tN]))
 (apply pwp_loop3 (α:=Nat × Bool) 14 [] (fun x=>[(12,.c (.v (.int .i64 x.1))),(6,.c (.own 2 (if x.2 then b2 else b).2.length))]) (fun x=>[(0,.arr 33 2 ((nmK l l.length (if x.2 then b2 else b).1).map Atr.d)),(2,.arr 9 1 ((if x.2 then b2 else b).2.map strD))]) (fun x=>(x.2=false → b.1.getD k default=⟨#[]⟩∧x.1≤freshN W 0)∧x.1≤freshN W 0+1) (fun x=>freshN W 0+2 - x.1) ((0,y0));(focus ((try push_cast [iO,tN]);rfl));(focus exact ⟨(fun hx=>⟨hy0 hx,Nat.zero_le _⟩),Nat.zero_le _⟩);(focus ((refine weak_fg ?_;try push_cast [iO,tN]);(try (rw [hini];exact ⟨rfl,rfl,rfl⟩)))))
 rintro ⟨n,y⟩ ⟨hy1,hy2⟩
 simp only at hy1 hy2
 cases y with
 | true =>
  simp only [if_true]
  push_cast [iO,tN]
  repeat' (first|((first|refine pC ?_|refine pQC ?_|refine pU ?_);push_cast [iO,tN,hg2,hne,hnl2,hff1])|(refine pif (fun h=>?_) (fun h=>?_)<;>first|exact pN h|push_cast [iO,tN,hg2,hne,hnl2,hff1]))
  exact ⟨k+1,by omega,by (refine weak_fg ?_;push_cast [iO,tN,hnx]),by omega⟩
 | false =>
  obtain ⟨hv0,hn2⟩:=hy1 rfl
  have hit:=itoaN_pure n (by omega)
  have hds:=digN_size n
  have hsz:(⟨#[105,102]⟩:ByteArray).size=2:=rfl
  have hif:(⟨#[105,102]⟩:ByteArray)++digN n=ifN n:=rfl
  have hc1:=rin5_pure b.2 (ifN n) (by omega)
  have hc2:=rin5_pure (allA l) (ifN n) (by omega)
  have happ:=inM_app (ifN n) b.2 (allA l)
  rw [hW] at happ
  rw [hv0] at hg
  simp only [Bool.false_eq_true,if_false]
  push_cast [iO,tN]
  by_cases hnf:n=freshN W 0
  ·have hin:=fresh_not W 0
   rw [← hnf,happ,Bool.or_eq_false_iff] at hin
   rw [hin.1] at hc1
   rw [hin.2] at hc2
   have hfW:b2=(b.1.set k (ifN n),b.2++[ifN n]):=by rw [← hb2];unfold fillR;rw [if_pos hv0,hW,← hnf]
   have hY:((nmK l l.length b.1).map Atr.d).set k [.v (.string w.path),.v (.string (ifN n))]=(nmK l l.length (b.1.set k (ifN n))).map Atr.d:=by
    rw [← nmK_setv l l.length hkb,hg,List.map_set];rfl
   repeat' (first|((refine plc [] (hit) ?_ ?_;push_cast [iO,tN,hg,hnl,hbl,hsz,hif,hY];rintro r os ⟨rfl,rfl⟩;push_cast [iO,tN,hg,hnl,hbl,hsz,hif,hY]))|((refine pl_call2 true [] rfl rfl (by kernel_rfl) (hc1) ?_ ?_ ?_;push_cast [iO,tN,hg,hnl,hbl,hsz,hif,hY];(intro _ r os;rintro ⟨rfl,rfl⟩;push_cast [iO,tN,hg,hnl,hbl,hsz,hif,hY]);rintro r os ⟨rfl,rfl⟩;refine pl_of_pops ?_;push_cast [iO,tN,hg,hnl,hbl,hsz,hif,hY]))|((refine pl_call2 true [] rfl rfl (by kernel_rfl) (hc2) ?_ ?_ ?_;push_cast [iO,tN,hg,hnl,hbl,hsz,hif,hY];(intro _ r os;rintro ⟨rfl,rfl⟩;push_cast [iO,tN,hg,hnl,hbl,hsz,hif,hY]);rintro r os ⟨rfl,rfl⟩;refine pl_of_pops ?_;push_cast [iO,tN,hg,hnl,hbl,hsz,hif,hY]))|((first|refine pC ?_|refine pQC ?_|refine pU ?_);push_cast [iO,tN,hg,hnl,hbl,hsz,hif,hY])|(refine pif (fun h=>?_) (fun h=>?_)<;>first|exact pN h|push_cast [iO,tN,hg,hnl,hbl,hsz,hif,hY]))
   exact ⟨(n+1,true),⟨(fun h=>by cases h),by simp only;omega⟩,by (refine weak_fg ?_;push_cast [iO,tN,hfW,hY]),by simp only;omega⟩
  ·have hin:=fresh_mid W (n:=0) (m:=n) (Nat.zero_le _) (by omega)
   rw [happ] at hin
   cases h1:inM (ifN n) b.2 with
   | true =>
    rw [h1] at hc1
    repeat' (first|((refine plc [] (hit) ?_ ?_;push_cast [iO,tN,hg,hnl,hbl,hsz,hif];rintro r os ⟨rfl,rfl⟩;push_cast [iO,tN,hg,hnl,hbl,hsz,hif]))|((refine pl_call2 true [] rfl rfl (by kernel_rfl) (hc1) ?_ ?_ ?_;push_cast [iO,tN,hg,hnl,hbl,hsz,hif];(intro _ r os;rintro ⟨rfl,rfl⟩;push_cast [iO,tN,hg,hnl,hbl,hsz,hif]);rintro r os ⟨rfl,rfl⟩;refine pl_of_pops ?_;push_cast [iO,tN,hg,hnl,hbl,hsz,hif]))|((refine pl_call2 true [] rfl rfl (by kernel_rfl) (hc2) ?_ ?_ ?_;push_cast [iO,tN,hg,hnl,hbl,hsz,hif];(intro _ r os;rintro ⟨rfl,rfl⟩;push_cast [iO,tN,hg,hnl,hbl,hsz,hif]);rintro r os ⟨rfl,rfl⟩;refine pl_of_pops ?_;push_cast [iO,tN,hg,hnl,hbl,hsz,hif]))|((first|refine pC ?_|refine pQC ?_|refine pU ?_);push_cast [iO,tN,hg,hnl,hbl,hsz,hif])|(refine pif (fun h=>?_) (fun h=>?_)<;>first|exact pN h|push_cast [iO,tN,hg,hnl,hbl,hsz,hif]))
    exact ⟨(n+1,false),⟨(fun _=>⟨hv0,by simp only;omega⟩),by simp only;omega⟩,by (refine weak_fg ?_;push_cast [iO,tN]),by simp only;omega⟩
   | false =>
    rw [h1,Bool.false_or] at hin
    rw [h1] at hc1
    rw [hin] at hc2
    repeat' (first|((refine plc [] (hit) ?_ ?_;push_cast [iO,tN,hg,hnl,hbl,hsz,hif];rintro r os ⟨rfl,rfl⟩;push_cast [iO,tN,hg,hnl,hbl,hsz,hif]))|((refine pl_call2 true [] rfl rfl (by kernel_rfl) (hc1) ?_ ?_ ?_;push_cast [iO,tN,hg,hnl,hbl,hsz,hif];(intro _ r os;rintro ⟨rfl,rfl⟩;push_cast [iO,tN,hg,hnl,hbl,hsz,hif]);rintro r os ⟨rfl,rfl⟩;refine pl_of_pops ?_;push_cast [iO,tN,hg,hnl,hbl,hsz,hif]))|((refine pl_call2 true [] rfl rfl (by kernel_rfl) (hc2) ?_ ?_ ?_;push_cast [iO,tN,hg,hnl,hbl,hsz,hif];(intro _ r os;rintro ⟨rfl,rfl⟩;push_cast [iO,tN,hg,hnl,hbl,hsz,hif]);rintro r os ⟨rfl,rfl⟩;refine pl_of_pops ?_;push_cast [iO,tN,hg,hnl,hbl,hsz,hif]))|((first|refine pC ?_|refine pQC ?_|refine pU ?_);push_cast [iO,tN,hg,hnl,hbl,hsz,hif])|(refine pif (fun h=>?_) (fun h=>?_)<;>first|exact pN h|push_cast [iO,tN,hg,hnl,hbl,hsz,hif]))
    exact ⟨(n+1,false),⟨(fun _=>⟨hv0,by simp only;omega⟩),by simp only;omega⟩,by (refine weak_fg ?_;push_cast [iO,tN]),by simp only;omega⟩
set_option maxRecDepth 20000
def Rcd.zero:Rcd:=⟨⟨#[]⟩,0,[],[],[],⟨#[]⟩,0,⟨#[]⟩,⟨#[]⟩,0⟩
theorem rof_some (rs:List Rcd) (n:Int) (rc:Rcd) (h:recO rs n=some rc) (hl:rs.length≤1000000) :
  PCalls Tryz.prog 46 [.c (.sl 12 (rs.map Rcd.d)),.c (.v (.int .i64 n))] [] fun r os=>r = .two (.agg rc.e) (.c (.v (.bool true)))∧os=[]:=by
 refine pcalls_of Tryz.func46 rfl (by simp [Tryz.ntmps46]) ?_
 rw [Tryz.ntmps46,Tryz.results46]
 push_cast [iO,tN]
 have cB:CutB 7 []:=trivial
 repeat' (first|((first|refine pC ?_|refine pQC ?_|refine pU ?_);push_cast [iO,tN])|(refine pif (fun h=>?_) (fun h=>?_)<;>first|exact pN h|push_cast [iO,tN]))
 (apply pwp_loop3 (α:=Nat) 7 [] (fun k=>[(6,.c (.v (.int .i64 k)))]) (fun k=>[]) (fun k=>k≤rs.length∧∀ x ∈ rs.take k,x.index≠n) (fun k=>rs.length - k) (0);(focus ((try push_cast [iO,tN]);rfl));(focus exact ⟨Nat.zero_le _,by simp⟩);(focus ((refine weak_fg ?_;try push_cast [iO,tN]))))
 rintro k ⟨hk,hpre⟩
 push_cast [iO,tN]
 by_cases hlt:k < rs.length
 ·by_cases hq:(rs.getD k default).index=n
  ·have he:rs.getD k default=rc:=by
    unfold recO at h
    rw [← List.take_append_drop k rs,List.find?_append,List.find?_eq_none.2 (fun x hx=>by simpa using hpre x hx),Option.none_or,List.drop_eq_getElem_cons hlt,← getD_lt rs hlt,List.find?_cons_of_pos (by simpa using hq)] at h
    exact Option.some.inj h
   rw [he] at hq
   repeat' (first|((first|refine pC ?_|refine pQC ?_|refine pU ?_);push_cast [iO,tN,he,hq])|(refine pif (fun h=>?_) (fun h=>?_)<;>first|exact pN h|push_cast [iO,tN,he,hq]))
   (refine retK_of [] ?_;push_cast [iO,tN])
  ·repeat' (first|((first|refine pC ?_|refine pQC ?_|refine pU ?_);push_cast [iO,tN,hq])|(refine pif (fun h=>?_) (fun h=>?_)<;>first|exact pN h|push_cast [iO,tN,hq]))
   refine ⟨k+1,⟨by omega,?_⟩,by (refine weak_fg ?_;push_cast [iO,tN]),by omega⟩
   intro x hx
   rw [List.take_succ_eq_append_getElem hlt,List.mem_append,List.mem_singleton] at hx
   rcases hx with hx|hx
   ·exact hpre x hx
   ·rw [hx,← getD_lt rs hlt];exact hq
 ·rw [List.take_of_length_le (by omega)] at hpre
  exfalso
  unfold recO at h
  exact hpre rc (List.mem_of_find?_eq_some h) (by simpa using List.find?_some h)
theorem rof_none (rs:List Rcd) (n:Int) (h:recO rs n=none) (hl:rs.length≤1000000) :
  PCalls Tryz.prog 46 [.c (.sl 12 (rs.map Rcd.d)),.c (.v (.int .i64 n))] [] fun r os=>r = .two (.agg Rcd.zero.e) (.c (.v (.bool false)))∧os=[]:=by
 have hall:∀ x ∈ rs,x.index≠n:=fun x hx=>by
  have:=List.find?_eq_none.1 h x hx
  simpa using this
 refine pcalls_of Tryz.func46 rfl (by simp [Tryz.ntmps46]) ?_
 rw [Tryz.ntmps46,Tryz.results46]
 unfold Rcd.zero
 push_cast [iO,tN]
 have cB:CutB 7 []:=trivial
 repeat' (first|((first|refine pC ?_|refine pQC ?_|refine pU ?_);push_cast [iO,tN])|(refine pif (fun h=>?_) (fun h=>?_)<;>first|exact pN h|push_cast [iO,tN]))
 (apply pwp_loop3 (α:=Nat) 7 [] (fun k=>[(6,.c (.v (.int .i64 k)))]) (fun k=>[]) (fun k=>k≤rs.length) (fun k=>rs.length - k) (0);(focus ((try push_cast [iO,tN]);rfl));(focus exact (Nat.zero_le _));(focus ((refine weak_fg ?_;try push_cast [iO,tN]))))
 rintro k hk
 push_cast [iO,tN]
 by_cases hlt:k < rs.length
 ·have hq:¬ (rs.getD k default).index=n:=hall _ (getD_mem hlt)
  repeat' (first|((first|refine pC ?_|refine pQC ?_|refine pU ?_);push_cast [iO,tN,hq])|(refine pif (fun h=>?_) (fun h=>?_)<;>first|exact pN h|push_cast [iO,tN,hq]))
  exact ⟨k+1,by omega,by (refine weak_fg ?_;push_cast [iO,tN]),by omega⟩
 ·repeat' (first|((first|refine pC ?_|refine pQC ?_|refine pU ?_);push_cast [iO,tN])|(refine pif (fun h=>?_) (fun h=>?_)<;>first|exact pN h|push_cast [iO,tN]))
  (refine retK_of [] ?_;push_cast [iO,tN])
set_option maxRecDepth 20000
set_option maxHeartbeats 4000000 in
theorem rpresent_pure (l:List Dev) (hl:l.length≤1000) (hz:∀ d ∈ l,d.original.size≤1000) :
  PCalls Tryz.prog 29 [.agg (trE l)] [] fun r os=>r = .c (.sl 2 ((nowP l).map Atr.d))∧os=[]:=by
 refine pcalls_of Tryz.func29 rfl (by simp [Tryz.ntmps29]) ?_
 rw [Tryz.ntmps29,Tryz.results29]
 push_cast [iO,tN]
 have cB:CutB 6 []:=trivial
 repeat' (first|((first|refine pC ?_|refine pQC ?_|refine pU ?_);push_cast [iO,tN])|(refine pif (fun h=>?_) (fun h=>?_)<;>first|exact pN h|push_cast [iO,tN]))
 refine pwp_weak (weak_adopt 3 33 2 (by omega) (by push_cast [iO,tN])) ?_
 push_cast [iO,tN]
 (apply pwp_loop3 (α:=Nat) 6 [] (fun k=>[(4,.c (.v (.int .i64 k))),(3,.c (.own 1 (nowK l k).length))]) (fun k=>[(1,.arr 33 2 ((nowK l k).map Atr.d))]) (fun k=>k≤l.length) (fun k=>l.length - k) (0);(focus ((try push_cast [iO,tN]);rfl));(focus exact (Nat.zero_le _));(focus ((refine weak_fg ?_;try push_cast [iO,tN]);(try (exact ⟨rfl,rfl⟩)))))
 intro k hk
 push_cast [iO,tN]
 by_cases hlt:k < l.length
 case neg =>
  have hk2:k=l.length:=by omega
  subst hk2
  repeat' (first|((first|refine pC ?_|refine pQC ?_|refine pU ?_);push_cast [iO,tN])|(refine pif (fun h=>?_) (fun h=>?_)<;>first|exact pN h|push_cast [iO,tN]))
  (refine retK_of [] ?_;push_cast [iO,tN])
  all_goals trivial
 obtain ⟨d,hd⟩:∃ d,l.getD k default=d:=⟨_,rfl⟩
 have hnl:=nowK_len l k
 by_cases hkind:d.kind=4
 case neg =>
  have hsk:=nowK_f hlt (by rw [hd];exact hkind)
  repeat' (first|((first|refine pC ?_|refine pQC ?_|refine pU ?_);push_cast [iO,tN,hd,hkind])|(refine pif (fun h=>?_) (fun h=>?_)<;>first|exact pN h|push_cast [iO,tN,hd,hkind]))
  exact ⟨k+1,by omega,by (refine weak_fg ?_;push_cast [iO,tN,hsk]),by omega⟩
 have hpl:=rplace_pure l d.index hl hz
 have hst:=nowK_t hlt (by rw [hd];exact hkind)
 rw [hd] at hst
 replace hst:nowK l (k+1)=nowK l k++[⟨placeM l d.index,d.name⟩]:=hst
 have hsl:(nowK l (k+1)).length=(nowK l k).length+1:=by rw [hst,List.length_append,List.length_singleton]
 obtain ⟨u,hu⟩:∃ u,nowK l k=u:=⟨_,rfl⟩
 rw [hu] at hst hnl hsl ⊢
 repeat' (first|(refine hidR 7 ?_)|((first|refine pC ?_|refine pQC ?_|refine pU ?_);push_cast [iO,tN,hd,hkind])|(refine pif (fun h=>?_) (fun h=>?_)<;>first|exact pN h|push_cast [iO,tN,hd,hkind]))
 refine unhid ?_
 (refine pwp_drawn (by kernel_rfl) ?_;try simp only [List.length_cons,List.length_nil,Nat.reduceAdd];repeat' first|((refine plc [] (hpl) ?_ ?_;push_cast [iO,tN,  hd,hkind];rintro r os ⟨rfl,rfl⟩;push_cast [iO,tN,  hd,hkind]))|(refine pl_app2 (e:=33) (sz:=2) (by':=32) (rows:=u.map Atr.d) (ys:=[[.v (.string (placeM l d.index)),.v (.string d.name)]]) 1 rfl (by push_cast [iO,tN,  hd,hkind]) (by push_cast [iO,tN,  hd,hkind]) (by push_cast [iO,tN,  hd,hkind]) (by push_cast [iO,tN,  hd,hkind]) (by omega) (by push_cast [iO,tN,  hd,hkind]) (by push_cast [iO,tN,  hd,hkind]) (by push_cast [iO,tN,  hd,hkind]) (by push_cast [iO,tN,  hd,hkind]) (by simp) (by push_cast [iO,tN,  hd,hkind];omega) (by push_cast [iO,tN,  hd,hkind];omega) ?_ ?_<;>(refine pl_of_pops ?_;push_cast [iO,tN,  hd,hkind]))|((first|refine pah 0 ?_|refine pah 2 ?_|refine pah 5 ?_|refine pah 7 ?_);push_cast [iO,tN,  hd,hkind])|(refine pad ?_;try push_cast [iO,tN,  hd,hkind])|((first|refine pas [1] ?_|refine pas [3] ?_|refine pas [4] ?_|refine pas [6] ?_|refine pas [8] ?_|refine pas [9] ?_|refine pas [10] ?_);push_cast [iO,tN,  hd,hkind])|((first|refine pas [1,3] ?_|refine pas [1,4] ?_|refine pas [1,6] ?_|refine pas [1,8] ?_|refine pas [1,9] ?_|refine pas [1,10] ?_|refine pas [3,4] ?_|refine pas [3,6] ?_|refine pas [3,8] ?_|refine pas [3,9] ?_|refine pas [3,10] ?_|refine pas [4,6] ?_|refine pas [4,8] ?_|refine pas [4,9] ?_|refine pas [4,10] ?_|refine pas [6,8] ?_|refine pas [6,9] ?_|refine pas [6,10] ?_|refine pas [8,9] ?_|refine pas [8,10] ?_|refine pas [9,10] ?_);push_cast [iO,tN,  hd,hkind];refine ⟨?_,?_⟩)|((first|refine pas [1,3,4] ?_|refine pas [1,3,6] ?_|refine pas [1,3,8] ?_|refine pas [1,3,9] ?_|refine pas [1,3,10] ?_|refine pas [1,4,6] ?_|refine pas [1,4,8] ?_|refine pas [1,4,9] ?_|refine pas [1,4,10] ?_|refine pas [1,6,8] ?_|refine pas [1,6,9] ?_|refine pas [1,6,10] ?_|refine pas [1,8,9] ?_|refine pas [1,8,10] ?_|refine pas [1,9,10] ?_|refine pas [3,4,6] ?_|refine pas [3,4,8] ?_|refine pas [3,4,9] ?_|refine pas [3,4,10] ?_|refine pas [3,6,8] ?_|refine pas [3,6,9] ?_|refine pas [3,6,10] ?_|refine pas [3,8,9] ?_|refine pas [3,8,10] ?_|refine pas [3,9,10] ?_|refine pas [4,6,8] ?_|refine pas [4,6,9] ?_|refine pas [4,6,10] ?_|refine pas [4,8,9] ?_|refine pas [4,8,10] ?_|refine pas [4,9,10] ?_|refine pas [6,8,9] ?_|refine pas [6,8,10] ?_|refine pas [6,9,10] ?_|refine pas [8,9,10] ?_);push_cast [iO,tN,  hd,hkind];refine ⟨?_,?_,?_⟩))
 all_goals first|exact ⟨k+1,by omega,by ((refine weak_fg ?_;push_cast [iO,tN,hst,hsl]);done),by omega⟩|exact ⟨k+1,by omega,by (refine Weak.trans (weak_sw 2 (by omega)) ?_;push_cast [iO,tN];refine Weak.trans (weak_sw 1 (by omega)) ?_;push_cast [iO,tN];(refine weak_fg ?_;push_cast [iO,tN,hst,hsl]);done),by omega⟩
end Go.Proofs.YthconflkbeipoaaGreatDoor
