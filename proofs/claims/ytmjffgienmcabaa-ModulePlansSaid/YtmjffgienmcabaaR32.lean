/- What the program computes, and the plain laws of it, part 32. -/
import Derived.Test.YtmjffgienmcabaaR31
namespace Go.Proofs.Ytmjffgienmcabaa
attribute [local irreducible] PL QL PWPr PCalls Weak RetK Kontr PA
open Go.RowKit
open IntWalk renaming iteOmega → iO, toNatUp → tN
set_option linter.unusedVariables false
set_option linter.unusedSimpArgs false
set_option maxRecDepth 20000
def bst (q:ByteArray → Bool) (l:List ByteArray) (j:Nat):ByteArray:=((l.drop j).find? q).getD ⟨#[]⟩
theorem bst_end (q:ByteArray → Bool) (l:List ByteArray):bst q l l.length=⟨#[]⟩:=by simp [bst]
theorem bst_t {q:ByteArray → Bool} {l:List ByteArray} {j:Nat} (hj:j < l.length) (h:q (l.getD j default)=true):bst q l j=l.getD j default:=by
 rw [getD_lt l hj] at h ⊢
 rw [bst,List.drop_eq_getElem_cons hj,List.find?_cons,h];rfl
theorem bst_f {q:ByteArray → Bool} {l:List ByteArray} {j:Nat} (hj:j < l.length) (h:q (l.getD j default)=false):bst q l j=bst q l (j+1):=by
 rw [getD_lt l hj] at h
 rw [bst,List.drop_eq_getElem_cons hj,List.find?_cons,h];rfl
theorem bst_zero (q:ByteArray → Bool) (l:List ByteArray):bst q l 0=(l.find? q).getD ⟨#[]⟩:=rfl
def allB (p:ByteArray → Bool) (l:List ByteArray) (k:Nat):Bool:=(l.take k).all p
theorem allB_zero (p:ByteArray → Bool) (l:List ByteArray):allB p l 0=true:=by simp [allB]
theorem allB_step {p:ByteArray → Bool} {l:List ByteArray} {k:Nat} (hk:k < l.length):allB p l (k+1)=(allB p l k && p (l.getD k default)):=by
 rw [allB,allB,List.take_succ_eq_append_getElem hk,List.all_append,getD_lt l hk];simp
theorem allB_end {p:ByteArray → Bool} {l:List ByteArray} {k:Nat} (hk:¬ k < l.length):allB p l k=l.all p:=by rw [allB,List.take_of_length_le (by omega)]
theorem inM_append (x:ByteArray) (l m:List ByteArray):inM x (l++m)=(inM x l || inM x m):=by
 rw [Bool.eq_iff_iff,Bool.or_eq_true,inM_iff,inM_iff,inM_iff,List.mem_append]
theorem may_eq (M:List Mod) (ld out:List ByteArray) (s:ByteArray):((modOf M s).isSome && ((modOf M s).getD noMod).needs.all fun x=>inM x ld || inM x out)=mayV M (ld++out) s:=by
 unfold mayV
 cases modOf M s with
 | none=>rfl
 | some m=>simp only [Option.isSome_some,Option.getD_some,Bool.true_and,inM_append];rw [List.all_eq_not_any_not]
theorem should_eq {M:List Mod} {T R:List ByteArray} {s:ByteArray} (h:mayV M T s=true):(((modOf M s).getD noMod).pre.all fun x=>!inM x R)=shouldV M T R s:=by
 rw [shouldV,h,Bool.true_and,List.all_eq_not_any_not];simp only [Bool.not_not]
theorem may_named {M:List Mod} {T:List ByteArray} {s:ByteArray} (hS:Small M) (h:mayV M T s=true):s≠⟨#[]⟩:=by
 unfold mayV at h
 cases hm:modOf M s with
 | none=>rw [hm] at h;cases h
 | some m=>rw [← (mod_mem hm).2];exact hS.named m (mod_mem hm).1
theorem left_eq (names loaded:List ByteArray):putAll [] (names.filter fun x=>!inM x loaded)=restM loaded names:=by
 obtain ⟨h1,h2,_⟩:=putAll_spec (names.filter fun x=>!inM x loaded) [] List.Pairwise.nil
 obtain ⟨i1,i2,_⟩:=restM_spec loaded names
 refine asc_ext h1 i1 fun x=>?_
 rw [h2,i2,List.mem_filter]
 simp [inM_false]
def leftL (names loaded:List ByteArray) (k:Nat):List ByteArray:=putAll [] ((names.take k).filter fun x=>!inM x loaded)
theorem leftL_t {names loaded:List ByteArray} {k:Nat} (hk:k < names.length) (h:inM (names.getD k default) loaded=true):leftL names loaded (k+1)=leftL names loaded k:=by
 rw [leftL,filt_step _ hk,h];simp [leftL]
theorem leftL_f {names loaded:List ByteArray} {k:Nat} (hk:k < names.length) (h:inM (names.getD k default) loaded=false):leftL names loaded (k+1)=putM (leftL names loaded k) (names.getD k default):=by
 rw [leftL,filt_step _ hk,h];simp [leftL,putAll_snoc]
theorem leftL_end {names loaded:List ByteArray} {k:Nat} (hk:¬ k < names.length):leftL names loaded k=restM loaded names:=by rw [leftL,List.take_of_length_le (by omega),left_eq]
theorem leftL_len (names loaded:List ByteArray) (k:Nat):(leftL names loaded k).length≤names.length:=by
 have h1:=(putAll_spec ((names.take k).filter fun x=>!inM x loaded) [] List.Pairwise.nil).2.2.2.2
 have h2:=List.length_filter_le (fun x=>!inM x loaded) (names.take k)
 rw [List.length_take] at h2
 simp only [List.length_nil] at h1
 unfold leftL
 omega
def restL (R:List ByteArray) (b:ByteArray) (k:Nat):List ByteArray:=(R.take k).filter fun x=>decide (x≠b)
theorem restL_t {R:List ByteArray} {b:ByteArray} {k:Nat} (hk:k < R.length) (h:R.getD k default≠b):restL R b (k+1)=restL R b k++[R.getD k default]:=by
 rw [restL,filt_step _ hk,if_pos (by simpa using h)];rfl
theorem restL_f {R:List ByteArray} {b:ByteArray} {k:Nat} (hk:k < R.length) (h:R.getD k default=b):restL R b (k+1)=restL R b k:=by
 rw [restL,filt_step _ hk,if_neg (by simpa using h)];simp [restL]
theorem restL_end {R:List ByteArray} {b:ByteArray} {k:Nat} (hk:¬ k < R.length):restL R b k=R.filter fun x=>decide (x≠b):=by rw [restL,List.take_of_length_le (by omega)]
theorem restL_len (R:List ByteArray) (b:ByteArray) (k:Nat):(restL R b k).length≤R.length:=by
 have:=List.length_filter_le (fun x=>decide (x≠b)) (R.take k)
 rw [List.length_take] at this
 unfold restL
 omega
set_option maxHeartbeats 4000000 in
theorem rOrder_pure (c:Cfg) (names loaded:List ByteArray) (hc:CfgOk2 c) (hn:names.length≤1000) (hl:loaded.length≤1000) :
  PCalls Try.prog 20 [.agg c.e,.c (.sl 1 (names.map strD)),.c (.sl 1 (loaded.map strD))] [] fun r os=>r = .c (.sl 1 ((ordM c.modules loaded (restM loaded names)).map strD))∧os=[]:=by
 have hS:=hc.small
 have hML:=hS.len
 refine pcalls_of Try.func20 rfl (by simp [Try.ntmps20]) ?_
 rw [Try.ntmps20,Try.results20]
 push_cast [iO,tN]
 have cB:CutB 19 []:=trivial
 repeat' (first|((first|refine pC ?_|refine pQC ?_|refine pU ?_);push_cast [iO,tN])|(refine pif (fun h=>?_) (fun h=>?_)<;>first|exact pN h|push_cast [iO,tN]))
 (apply pwp_loop3 (α:=Nat) 19 [] (fun k=>[(9,.c (.v (.int .i64 k))),(7,.c (.sl 1 ((leftL names loaded k).map strD)))]) (fun k=>[]) (fun k=>k≤names.length) (fun k=>names.length - k) (0);(focus ((try push_cast [iO,tN]);rfl));(focus exact (by omega));(focus ((refine weak_fg ?_;try push_cast [iO,tN]);(try (rfl)))))
 intro k hk
 push_cast [iO,tN]
 have hll:=leftL_len names loaded k
 by_cases hlt:k < names.length
 ·cases hin:inM (names.getD k default) loaded
  ·have hs:=leftL_f hlt hin
   repeat' (first|(refine plc [] (in_pure loaded (names.getD k default) (by omega)) ?_ ?_;push_cast [iO,tN,hin];rintro r os ⟨rfl,rfl⟩;push_cast [iO,tN,hin])|(refine plc [] (put_pure (leftL names loaded k) (names.getD k default) (by omega)) ?_ ?_;push_cast [iO,tN,hin];rintro r os ⟨rfl,rfl⟩;push_cast [iO,tN,hin])|((first|refine pC ?_|refine pQC ?_|refine pU ?_);push_cast [iO,tN,hin])|(refine pif (fun h=>?_) (fun h=>?_)<;>first|exact pN h|push_cast [iO,tN,hin]))
   exact ⟨k+1,by omega,by (refine weak_fg ?_;push_cast [iO,tN,hs]),by omega⟩
  ·have hs:=leftL_t hlt hin
   repeat' (first|(refine plc [] (in_pure loaded (names.getD k default) (by omega)) ?_ ?_;push_cast [iO,tN,hin];rintro r os ⟨rfl,rfl⟩;push_cast [iO,tN,hin])|((first|refine pC ?_|refine pQC ?_|refine pU ?_);push_cast [iO,tN,hin])|(refine pif (fun h=>?_) (fun h=>?_)<;>first|exact pN h|push_cast [iO,tN,hin]))
   exact ⟨k+1,by omega,by (refine weak_fg ?_;push_cast [iO,tN,hs]),by omega⟩
 ·rw [leftL_end hlt] at hll ⊢
  have hra:=(restM_spec loaded names).1
  obtain ⟨R0,hR0⟩:∃ R0,restM loaded names=R0:=⟨_,rfl⟩
  rw [hR0] at hll hra ⊢
  repeat' (first|((first|refine pC ?_|refine pQC ?_|refine pU ?_);push_cast [iO,tN])|(refine pif (fun h=>?_) (fun h=>?_)<;>first|exact pN h|push_cast [iO,tN]))
  refine pwp_weak (weak_adopt 8 9 1 (by omega) (by push_cast [iO,tN])) ?_
  push_cast [iO,tN]
  (apply pwp_loop3 (α:=List ByteArray × List ByteArray) 19 [] (fun x=>[(7,.c (.sl 1 (x.2.map strD))),(8,.c (.own 1 (x.1.length)))]) (fun x=>[(1,.arr 9 1 (x.1.map strD))]) (fun x=>OInv c.modules loaded R0 x.1 (loaded++x.1) x.2) (fun x=>x.2.length) (([],R0));(focus ((try push_cast [iO,tN]);rfl));(focus exact (OInv.start hra (by simp)));(focus ((refine weak_fg ?_;try push_cast [iO,tN]))))
  rintro ⟨out,R⟩ hI
  simp only at hI
  have hIl:=hI.len
  push_cast [iO,tN]
  repeat' (first|((first|refine pC ?_|refine pQC ?_|refine pU ?_);push_cast [iO,tN])|(refine pif (fun h=>?_) (fun h=>?_)<;>first|exact pN h|push_cast [iO,tN]))
  (apply pwp_loop3 (α:=Nat) 19 [] (fun j=>[(12,.c (.v (.int .i64 ((j:Int) - 1)))),(10,.c (.v (.string (bst (shouldV c.modules (loaded++out) R) R j)))),(11,.c (.v (.string (bst (mayV c.modules (loaded++out)) R j))))]) (fun j=>[]) (fun j=>j≤R.length) (fun j=>j) (R.length);(focus ((try push_cast [iO,tN]);rfl));(focus exact (Nat.le_refl _));(focus ((refine weak_fg ?_;try push_cast [iO,tN]);(try (simp only [bst_end,true_and,and_true])))))
  intro j hj
  push_cast [iO,tN]
  rcases Nat.eq_zero_or_pos j with rfl|hj0
  ·have hz1:=bst_zero (shouldV c.modules (loaded++out) R) R
   have hz2:=bst_zero (mayV c.modules (loaded++out)) R
   cases hf:R.find? (shouldV c.modules (loaded++out) R) with
   | some b =>
    have hq:=List.find?_some hf
    have hmb:mayV c.modules (loaded++out) b=true:=by unfold shouldV at hq;simp only [Bool.and_eq_true] at hq;exact hq.1
    have hbn:=may_named hS hmb
    have hch:chooseM c.modules (loaded++out) R=some b:=by unfold chooseM;rw [hf]
    rw [hf] at hz1
    simp only [Option.getD_some] at hz1
    repeat' (first|((first|refine pC ?_|refine pQC ?_|refine pU ?_);push_cast [iO,tN,hz1,hbn])|(refine pif (fun h=>?_) (fun h=>?_)<;>first|exact pN h|push_cast [iO,tN,hz1,hbn]))
    refine pwp_weak (weak_adopt 17 9 1 (by omega) (by push_cast [iO,tN])) ?_
    push_cast [iO,tN]
    (apply pwp_loop3 (α:=Nat) 19 [] (fun k=>[(18,.c (.v (.int .i64 k))),(17,.c (.own 2 ((restL R b k).length)))]) (fun k=>[(2,.arr 9 1 ((restL R b k).map strD))]) (fun k=>k≤R.length) (fun k=>R.length - k) (0);(focus ((try push_cast [iO,tN]);rfl));(focus exact (by omega));(focus ((refine weak_fg ?_;try push_cast [iO,tN]);(try (exact ⟨rfl,rfl⟩)))))
    intro k hk
    push_cast [iO,tN]
    have hrl:=restL_len R b k
    by_cases hlt4:k < R.length
    ·by_cases hne:R.getD k default=b
     ·have hs:=restL_f hlt4 hne
      repeat' (first|((first|refine pC ?_|refine pQC ?_|refine pU ?_);push_cast [iO,tN,hne])|(refine pif (fun h=>?_) (fun h=>?_)<;>first|exact pN h|push_cast [iO,tN,hne]))
      exact ⟨k+1,by omega,by (refine weak_fg ?_;push_cast [iO,tN,hs]),by omega⟩
     ·have hs:=restL_t hlt4 hne
      repeat' (first|((first|refine pC ?_|refine pQC ?_|refine pU ?_);push_cast [iO,tN,hne])|(refine pif (fun h=>?_) (fun h=>?_)<;>first|exact pN h|push_cast [iO,tN,hne]))
      exact ⟨k+1,by omega,by (refine weak_fg ?_;push_cast [iO,tN,hs]),by omega⟩
    ·rw [restL_end hlt4] at hrl ⊢
     have hst:=hI.step hch
     have hfl:=filter_len (asc_nodup hI.asc) (choose_mem hch)
     generalize (R.filter fun x=>decide (x≠b))=R' at hrl hst hfl ⊢
     have htk:=List.take_of_length_le (l:=R'.map strD) (i:=R'.length) (by simp)
     refine pwp_weak (weak_frz 2 (by omega)) ?_
     push_cast [iO,tN,htk]
     repeat' (first|((first|refine pC ?_|refine pQC ?_|refine pU ?_);push_cast [iO,tN])|(refine pif (fun h=>?_) (fun h=>?_)<;>first|exact pN h|push_cast [iO,tN]))
     exact ⟨(out++[b],R'),⟨hst.asc,fun _=>Iff.rfl,hst.eq,hst.len⟩,by (refine weak_fg ?_;push_cast [iO,tN]),by simp only;omega⟩
   | none =>
    rw [hf] at hz1
    simp only [Option.getD_none] at hz1
    cases hg:R.find? (mayV c.modules (loaded++out)) with
    | some b =>
     have hmb:=List.find?_some hg
     have hbn:=may_named hS hmb
     have hch:chooseM c.modules (loaded++out) R=some b:=by unfold chooseM;rw [hf];exact hg
     rw [hg] at hz2
     simp only [Option.getD_some] at hz2
     repeat' (first|((first|refine pC ?_|refine pQC ?_|refine pU ?_);push_cast [iO,tN,hz1,hz2,hbn])|(refine pif (fun h=>?_) (fun h=>?_)<;>first|exact pN h|push_cast [iO,tN,hz1,hz2,hbn]))
     refine pwp_weak (weak_adopt 17 9 1 (by omega) (by push_cast [iO,tN])) ?_
     push_cast [iO,tN]
     (apply pwp_loop3 (α:=Nat) 19 [] (fun k=>[(18,.c (.v (.int .i64 k))),(17,.c (.own 2 ((restL R b k).length)))]) (fun k=>[(2,.arr 9 1 ((restL R b k).map strD))]) (fun k=>k≤R.length) (fun k=>R.length - k) (0);(focus ((try push_cast [iO,tN]);rfl));(focus exact (by omega));(focus ((refine weak_fg ?_;try push_cast [iO,tN]);(try (exact ⟨rfl,rfl⟩)))))
     intro k hk
     push_cast [iO,tN]
     have hrl:=restL_len R b k
     by_cases hlt4:k < R.length
     ·by_cases hne:R.getD k default=b
      ·have hs:=restL_f hlt4 hne
       repeat' (first|((first|refine pC ?_|refine pQC ?_|refine pU ?_);push_cast [iO,tN,hne])|(refine pif (fun h=>?_) (fun h=>?_)<;>first|exact pN h|push_cast [iO,tN,hne]))
       exact ⟨k+1,by omega,by (refine weak_fg ?_;push_cast [iO,tN,hs]),by omega⟩
      ·have hs:=restL_t hlt4 hne
       repeat' (first|((first|refine pC ?_|refine pQC ?_|refine pU ?_);push_cast [iO,tN,hne])|(refine pif (fun h=>?_) (fun h=>?_)<;>first|exact pN h|push_cast [iO,tN,hne]))
       exact ⟨k+1,by omega,by (refine weak_fg ?_;push_cast [iO,tN,hs]),by omega⟩
     ·rw [restL_end hlt4] at hrl ⊢
      have hst:=hI.step hch
      have hfl:=filter_len (asc_nodup hI.asc) (choose_mem hch)
      generalize (R.filter fun x=>decide (x≠b))=R' at hrl hst hfl ⊢
      have htk:=List.take_of_length_le (l:=R'.map strD) (i:=R'.length) (by simp)
      refine pwp_weak (weak_frz 2 (by omega)) ?_
      push_cast [iO,tN,htk]
      repeat' (first|((first|refine pC ?_|refine pQC ?_|refine pU ?_);push_cast [iO,tN])|(refine pif (fun h=>?_) (fun h=>?_)<;>first|exact pN h|push_cast [iO,tN]))
      exact ⟨(out++[b],R'),⟨hst.asc,fun _=>Iff.rfl,hst.eq,hst.len⟩,by (refine weak_fg ?_;push_cast [iO,tN]),by simp only;omega⟩
    | none =>
     rw [hg] at hz2
     simp only [Option.getD_none] at hz2
     have hch:chooseM c.modules (loaded++out) R=none:=by unfold chooseM;rw [hf];exact hg
     have hfin:=hI.stop hch
     have htk:=List.take_of_length_le (l:=out.map strD) (i:=out.length) (by simp)
     refine pwp_weak (weak_frz 1 (by omega)) ?_
     push_cast [iO,tN,htk]
     repeat' (first|((first|refine pC ?_|refine pQC ?_|refine pU ?_);push_cast [iO,tN,hz1,hz2])|(refine pif (fun h=>?_) (fun h=>?_)<;>first|exact pN h|push_cast [iO,tN,hz1,hz2]))
     (refine retK_of [] ?_;push_cast [iO,tN])
     rw [hfin]
  ·obtain ⟨j,rfl⟩:∃ i,j=i+1:=⟨j - 1,by omega⟩
   have hjl:j < R.length:=by omega
   obtain ⟨m2,hm2⟩:∃ m2,(modOf c.modules (R.getD j default)).getD noMod=m2:=⟨_,rfl⟩
   obtain ⟨o,ho⟩:∃ o,(modOf c.modules (R.getD j default)).isSome=o:=⟨_,rfl⟩
   have hmay:=may_eq c.modules loaded out (R.getD j default)
   rw [hm2,ho] at hmay
   have hnl:=hS.needsOf (R.getD j default)
   unfold needsOf at hnl
   have hpl:=hc.softl (R.getD j default)
   unfold softOf at hpl
   rw [hm2] at hnl hpl
   simp only [List.length_append] at hpl
   obtain ⟨p,hp⟩:∃ p:ByteArray → Bool,(fun x=>inM x loaded || inM x out)=p:=⟨_,rfl⟩
   rw [hp] at hmay
   repeat' (first|((refine pwp_cut 19 [] ?_;apply pwp_drawn_to;(focus kernel_rfl);(focus (simp only [List.length_cons,List.length_nil,Nat.reduceAdd];(repeat' first|(refine plc [] (module_pure c.modules (R.getD j default) (by omega)) ?_ ?_;push_cast [iO,tN,  hm2,ho];rintro r os ⟨rfl,rfl⟩;push_cast [iO,tN,  hm2,ho])|((first|refine pah 0 ?_|refine pah 2 ?_|refine pah 3 ?_|refine pah 4 ?_|refine pah 7 ?_|refine pah 8 ?_|refine pah 9 ?_|refine pah 12 ?_);push_cast [iO,tN,  hm2,ho])|(refine pad ?_;first|with_reducible exact weak_cutS 19 [] _|(refine weak_fg ?_;push_cast [iO,tN,  hm2,ho]))|((first|refine pas [1] ?_|refine pas [5] ?_|refine pas [6] ?_|refine pas [10] ?_|refine pas [11] ?_);push_cast [iO,tN,  hm2,ho])|((first|refine pas [1,5] ?_|refine pas [1,10] ?_|refine pas [5,10] ?_|refine pas [6,10] ?_);push_cast [iO,tN,  hm2,ho];refine ⟨?_,?_⟩)|((first|refine pas [1,5,10] ?_);push_cast [iO,tN,  hm2,ho];refine ⟨?_,?_,?_⟩));done));push_cast [iO,tN,  hm2,ho]))|((first|refine pC ?_|refine pQC ?_|refine pU ?_);push_cast [iO,tN,hm2,ho])|(refine pif (fun h=>?_) (fun h=>?_)<;>first|exact pN h|push_cast [iO,tN,hm2,ho]))
   (apply pwp_loop3 (α:=Nat) 19 [] (fun k=>[(15,.c (.v (.int .i64 k))),(14,.c (.v (.bool (o && allB p m2.needs k))))]) (fun k=>[]) (fun k=>k≤m2.needs.length) (fun k=>m2.needs.length - k) (0);(focus ((try push_cast [iO,tN]);rfl));(focus exact (by omega));(focus ((refine weak_fg ?_;try push_cast [iO,tN]);(try (simp only [allB_zero,Bool.and_true])))))
   intro k hk
   push_cast [iO,tN]
   by_cases hlt2:k < m2.needs.length
   ·obtain ⟨v,hv⟩:∃ v,(o && allB p m2.needs k)=v:=⟨_,rfl⟩
    have hst:(o && allB p m2.needs (k+1))=(v && (inM (m2.needs.getD k default) loaded || inM (m2.needs.getD k default) out)):=by rw [allB_step hlt2,← Bool.and_assoc,hv,← hp]
    cases h1:inM (m2.needs.getD k default) loaded<;>cases h2:inM (m2.needs.getD k default) out<;>cases v
    all_goals rw [h1,h2] at hst
    all_goals simp only [Bool.true_and,Bool.false_and,Bool.or_true,Bool.true_or,Bool.or_false,Bool.false_or] at hst
    all_goals repeat' (first|(refine plc [] (in_pure loaded (m2.needs.getD k default) (by omega)) ?_ ?_;push_cast [iO,tN,hv,h1,h2];rintro r os ⟨rfl,rfl⟩;push_cast [iO,tN,hv,h1,h2])|(refine pl_call2 true [] rfl rfl (by kernel_rfl) (in_pure out (m2.needs.getD k default) (by omega)) ?_ ?_ ?_;push_cast [iO,tN,hv,h1,h2];(intro _ r os;rintro ⟨rfl,rfl⟩;push_cast [iO,tN,hv,h1,h2]);rintro r os ⟨rfl,rfl⟩;refine pl_of_pops ?_;push_cast [iO,tN,hv,h1,h2])|((first|refine pC ?_|refine pQC ?_|refine pU ?_);push_cast [iO,tN,hv,h1,h2])|(refine pif (fun h=>?_) (fun h=>?_)<;>first|exact pN h|push_cast [iO,tN,hv,h1,h2]))
    all_goals exact ⟨k+1,by omega,by (refine weak_fg ?_;push_cast [iO,tN,hst]),by omega⟩
   ·rw [allB_end hlt2,hmay]
    cases hmv:mayV c.modules (loaded++out) (R.getD j default)
    ·have hb1:=bst_f (q:=shouldV c.modules (loaded++out) R) hjl (by unfold shouldV;rw [hmv];rfl)
     have hb2:=bst_f (q:=mayV c.modules (loaded++out)) hjl hmv
     repeat' (first|((first|refine pC ?_|refine pQC ?_|refine pU ?_);push_cast [iO,tN])|(refine pif (fun h=>?_) (fun h=>?_)<;>first|exact pN h|push_cast [iO,tN]))
     exact ⟨j,by omega,by (refine weak_fg ?_;push_cast [iO,tN,hb1,hb2]),by omega⟩
    ·have hsh:=should_eq (R:=R) hmv
     rw [hm2] at hsh
     obtain ⟨q,hq⟩:∃ q:ByteArray → Bool,(fun x=>!inM x R)=q:=⟨_,rfl⟩
     rw [hq] at hsh
     have hb2:=bst_t (q:=mayV c.modules (loaded++out)) hjl hmv
     repeat' (first|((first|refine pC ?_|refine pQC ?_|refine pU ?_);push_cast [iO,tN])|(refine pif (fun h=>?_) (fun h=>?_)<;>first|exact pN h|push_cast [iO,tN]))
     (apply pwp_loop3 (α:=Nat) 19 [] (fun k=>[(16,.c (.v (.int .i64 k))),(14,.c (.v (.bool (allB q m2.pre k))))]) (fun k=>[]) (fun k=>k≤m2.pre.length) (fun k=>m2.pre.length - k) (0);(focus ((try push_cast [iO,tN]);rfl));(focus exact (by omega));(focus ((refine weak_fg ?_;try push_cast [iO,tN]);(try (simp only [allB_zero])))))
     intro k hk
     push_cast [iO,tN]
     by_cases hlt3:k < m2.pre.length
     ·obtain ⟨v,hv⟩:∃ v,allB q m2.pre k=v:=⟨_,rfl⟩
      have hst:allB q m2.pre (k+1)=(v && !inM (m2.pre.getD k default) R):=by rw [allB_step hlt3,hv,← hq]
      cases h1:inM (m2.pre.getD k default) R<;>cases v
      all_goals rw [h1] at hst
      all_goals simp only [Bool.true_and,Bool.false_and,Bool.not_true,Bool.not_false] at hst
      all_goals repeat' (first|(refine plc [] (in_pure R (m2.pre.getD k default) (by omega)) ?_ ?_;push_cast [iO,tN,hv,h1];rintro r os ⟨rfl,rfl⟩;push_cast [iO,tN,hv,h1])|((first|refine pC ?_|refine pQC ?_|refine pU ?_);push_cast [iO,tN,hv,h1])|(refine pif (fun h=>?_) (fun h=>?_)<;>first|exact pN h|push_cast [iO,tN,hv,h1]))
      all_goals exact ⟨k+1,by omega,by (refine weak_fg ?_;push_cast [iO,tN,hst]),by omega⟩
     ·rw [allB_end hlt3,hsh]
      cases hsv:shouldV c.modules (loaded++out) R (R.getD j default)
      ·have hb1:=bst_f (q:=shouldV c.modules (loaded++out) R) hjl hsv
       repeat' (first|((first|refine pC ?_|refine pQC ?_|refine pU ?_);push_cast [iO,tN])|(refine pif (fun h=>?_) (fun h=>?_)<;>first|exact pN h|push_cast [iO,tN]))
       exact ⟨j,by omega,by (refine weak_fg ?_;push_cast [iO,tN,hb1,hb2]),by omega⟩
      ·have hb1:=bst_t (q:=shouldV c.modules (loaded++out) R) hjl hsv
       repeat' (first|((first|refine pC ?_|refine pQC ?_|refine pU ?_);push_cast [iO,tN])|(refine pif (fun h=>?_) (fun h=>?_)<;>first|exact pN h|push_cast [iO,tN]))
       exact ⟨j,by omega,by (refine weak_fg ?_;push_cast [iO,tN,hb1,hb2]),by omega⟩
set_option maxRecDepth 20000
theorem free_all (M:List Mod) (W L:List ByteArray) (s:ByteArray):(!inM s W && L.all fun o=>!inM s (needsOf M o))=freeV M W L s:=by
 unfold freeV
 rw [Bool.and_comm,List.all_eq_not_any_not]
 simp only [Bool.not_not]
theorem all_snoc {p:ByteArray → Bool} {L:List ByteArray} {k:Nat} (hk:k < L.length):(L.take (k+1)).all p=((L.take k).all p && p (L.getD k default)):=by
 rw [List.take_succ_eq_append_getElem hk,List.all_append,getD_lt L hk];simp
theorem filt_lt {L:List ByteArray} {b:ByteArray} (h:b ∈ L):(L.filter fun x=>decide (x≠b)).length < L.length :=
 List.length_filter_lt_length_iff_exists.2 ⟨b,h,by simp⟩
set_option maxHeartbeats 16000000 in
theorem rplan_pureM (c:Cfg) (loaded W:List ByteArray) (hc:CfgOk2 c) (hl:loaded.length≤1000) (hW:W.length≤1000) :
  PCalls Try.prog 8 [.agg c.e,.c (.sl 1 (loaded.map strD)),.c (.sl 1 (W.map strD))] [] fun r os=>r = .c (.sl 14 ((planL c.modules loaded W).map opR))∧os=[]:=by
 have hS:=hc.small
 have hML:=hS.len
 obtain ⟨hul1,hul2⟩:=unlM_len c.modules W loaded
 have hasc:=ascOf_spec loaded
 refine pcalls_of Try.func8 rfl (by simp [Try.ntmps8]) ?_
 rw [Try.ntmps8,Try.results8]
 push_cast [iO,tN]
 have cB:CutB 20 []:=trivial
 repeat' (first|((first|refine pC ?_|refine pQC ?_|refine pU ?_);push_cast [iO,tN])|(refine pif (fun h=>?_) (fun h=>?_)<;>first|exact pN h|push_cast [iO,tN]))
 refine pwp_weak (weak_adopt 7 40 14 (by omega) (by push_cast [iO,tN])) ?_
 push_cast [iO,tN]
 (apply pwp_loop3 (α:=List (Int × ByteArray) × List ByteArray) 20 [] (fun x=>[(8,.c (.sl 1 (x.2.map strD))),(7,.c (.own 1 (x.1.length)))]) (fun x=>[(1,.arr 40 14 (x.1.map opR))]) (fun x=>∃ gone st,x.1=gone.map (fun s=>((9:Int),s))∧UInv c.modules W (ascOf loaded) gone st∧(∀ y,y ∈ x.2 ↔ y ∈ st)∧x.2.length≤loaded.length) (fun x=>x.2.length) (([],loaded));(focus ((try push_cast [iO,tN]);rfl));(focus exact ⟨[],ascOf loaded,rfl,UInv.start hasc.1,(fun y=>(hasc.2.1 y).symm),Nat.le_refl _⟩);(focus ((refine weak_fg ?_;try push_cast [iO,tN]))))
 rintro ⟨out,L⟩ ⟨gone,st,hout,hI,hmem,hLl⟩
 simp only at hout hmem hLl ⊢
 have hglen:=hI.len
 have hol:out.length≤1000:=by rw [hout,List.length_map];omega
 push_cast [iO,tN]
 repeat' (first|((first|refine pC ?_|refine pQC ?_|refine pU ?_);push_cast [iO,tN])|(refine pif (fun h=>?_) (fun h=>?_)<;>first|exact pN h|push_cast [iO,tN]))
 (apply pwp_loop3 (α:=Nat × Option ByteArray) 20 [] (fun y=>[(11,.c (.v (.int .i64 y.1))),(9,.c (.v (.string (y.2.getD ⟨#[]⟩)))),(10,.c (.v (.bool y.2.isSome)))]) (fun y=>[]) (fun y=>y.1≤L.length∧y.2=minF (freeV c.modules W L) (L.take y.1)) (fun y=>L.length - y.1) ((0,none));(focus ((try push_cast [iO,tN]);rfl));(focus exact ⟨by omega,rfl⟩);(focus ((refine weak_fg ?_;try push_cast [iO,tN]);(try (exact ⟨rfl,rfl⟩)))))
 rintro ⟨i,o⟩ ⟨hi,ho⟩
 simp only at hi ho ⊢
 by_cases hlt:i < L.length
 ·have hnx:=minF_next (q:=freeV c.modules W L) hlt
  obtain ⟨s,hs⟩:∃ s,L.getD i default=s:=⟨_,rfl⟩
  rw [← ho,hs] at hnx
  have hin:=in_pure W s (by omega)
  obtain ⟨v,hv⟩:∃ v,inM s W=v:=⟨_,rfl⟩
  rw [hv] at hin
  push_cast [iO,tN]
  repeat' (first|((refine plc [] (hin) ?_ ?_;push_cast [iO,tN,hs];rintro r os ⟨rfl,rfl⟩;push_cast [iO,tN,hs]))|((first|refine pC ?_|refine pQC ?_|refine pU ?_);push_cast [iO,tN,hs])|(refine pif (fun h=>?_) (fun h=>?_)<;>first|exact pN h|push_cast [iO,tN,hs]))
  (apply pwp_loop3 (α:=Nat × Bool) 20 [] (fun z=>[(13,.c (.v (.int .i64 z.1))),(12,.c (.v (.bool z.2)))]) (fun z=>[]) (fun z=>z.1≤L.length∧z.2=(!v && (L.take z.1).all fun u=>!inM s (needsOf c.modules u))) (fun z=>L.length - z.1) ((0,!v));(focus ((try push_cast [iO,tN]);rfl));(focus exact ⟨by omega,by simp⟩);(focus ((refine weak_fg ?_;try push_cast [iO,tN]))))
  rintro ⟨k,f⟩ ⟨hk,hf⟩
  simp only at hk hf ⊢
  push_cast [iO,tN]
  by_cases hkt:k < L.length
  ·have hal:=all_snoc (p:=fun u=>!inM s (needsOf c.modules u)) hkt
   obtain ⟨u,hu⟩:∃ u,L.getD k default=u:=⟨_,rfl⟩
   rw [hu] at hal
   have hmo:=module_pure c.modules u (by omega)
   have hnl:=hS.needsOf u
   obtain ⟨m2,hm2⟩:∃ m2,(modOf c.modules u).getD noMod=m2:=⟨_,rfl⟩
   obtain ⟨ok,hok⟩:∃ ok,(modOf c.modules u).isSome=ok:=⟨_,rfl⟩
   have hnu:needsOf c.modules u=m2.needs:=by unfold needsOf;rw [hm2]
   rw [hnu] at hal hnl
   rw [hm2,hok] at hmo
   have hin2:=in_pure m2.needs s (by omega)
   obtain ⟨w,hw⟩:∃ w,inM s m2.needs=w:=⟨_,rfl⟩
   rw [hw] at hin2 hal
   repeat' (first|(refine hidR 11 ?_)|((first|refine pC ?_|refine pQC ?_|refine pU ?_);push_cast [iO,tN,hu])|(refine pif (fun h=>?_) (fun h=>?_)<;>first|exact pN h|push_cast [iO,tN,hu]))
   refine unhid ?_
   (refine pwp_cut 20 [] ?_;apply pwp_drawn_to;(focus kernel_rfl);(focus (simp only [List.length_cons,List.length_nil,Nat.reduceAdd];(repeat' first|((refine plc [] (hmo) ?_ ?_;push_cast [iO,tN,  hu];rintro r os ⟨rfl,rfl⟩;push_cast [iO,tN,  hu]))|((first|refine pah 0 ?_|refine pah 2 ?_|refine pah 3 ?_|refine pah 4 ?_|refine pah 7 ?_|refine pah 8 ?_|refine pah 9 ?_|refine pah 12 ?_);push_cast [iO,tN,  hu])|(refine pad ?_;first|with_reducible exact weak_cutS 20 [] _|(refine weak_fg ?_;push_cast [iO,tN,  hu]))|((first|refine pas [1] ?_|refine pas [5] ?_|refine pas [6] ?_|refine pas [10] ?_|refine pas [11] ?_);push_cast [iO,tN,  hu])|((first|refine pas [1,5] ?_|refine pas [1,10] ?_|refine pas [5,10] ?_|refine pas [6,10] ?_);push_cast [iO,tN,  hu];refine ⟨?_,?_⟩)|((first|refine pas [1,5,10] ?_);push_cast [iO,tN,  hu];refine ⟨?_,?_,?_⟩));done));push_cast [iO,tN,  hu])
   cases f with
   | false =>
    repeat' (first|((refine ql_call2 false rfl rfl (by kernel_rfl) (hin2) (fun r os h=>h.1) rfl ?_ ?_;push_cast [iO,tN,hs];refine ql_of_qops ?_;push_cast [iO,tN,hs]))|((first|refine pC ?_|refine pQC ?_|refine pU ?_);push_cast [iO,tN,hs])|(refine pif (fun h=>?_) (fun h=>?_)<;>first|exact pN h|push_cast [iO,tN,hs]))
    exact ⟨(k+1,false),⟨by simp only;omega,by simp only;rw [hal,← Bool.and_assoc,← hf];rfl⟩,by (refine weak_fg ?_;push_cast [iO,tN]),by simp only;omega⟩
   | true =>
    repeat' (first|((refine ql_call2 false rfl rfl (by kernel_rfl) (hin2) (fun r os h=>h.1) rfl ?_ ?_;push_cast [iO,tN,hs];refine ql_of_qops ?_;push_cast [iO,tN,hs]))|((first|refine pC ?_|refine pQC ?_|refine pU ?_);push_cast [iO,tN,hs])|(refine pif (fun h=>?_) (fun h=>?_)<;>first|exact pN h|push_cast [iO,tN,hs]))
    exact ⟨(k+1,!w),⟨by simp only;omega,by simp only;rw [hal,← Bool.and_assoc,← hf,Bool.true_and]⟩,by (refine weak_fg ?_;push_cast [iO,tN]),by simp only;omega⟩
  ·have hk2:k=L.length:=by omega
   rw [hk2,List.take_length,← hv,free_all] at hf
   cases f with
   | false =>
    have hm:minS (freeV c.modules W L) o s=o:=by unfold minS;rw [if_neg (by rw [← hf];simp)]
    repeat' (first|((first|refine pC ?_|refine pQC ?_|refine pU ?_);push_cast [iO,tN])|(refine pif (fun h=>?_) (fun h=>?_)<;>first|exact pN h|push_cast [iO,tN]))
    exact ⟨(i+1,o),⟨by simp only;omega,by simp only;rw [hnx,hm]⟩,by (refine weak_fg ?_;push_cast [iO,tN]),by simp only;omega⟩
   | true =>
    cases o with
    | none =>
     have hm:minS (freeV c.modules W L) none s=some s:=by unfold minS;rw [if_pos hf.symm]
     repeat' (first|((first|refine pC ?_|refine pQC ?_|refine pU ?_);push_cast [iO,tN,hs,Option.isSome_none,Option.getD_none])|(refine pif (fun h=>?_) (fun h=>?_)<;>first|exact pN h|push_cast [iO,tN,hs,Option.isSome_none,Option.getD_none]))
     exact ⟨(i+1,some s),⟨by simp only;omega,by simp only;rw [hnx,hm]⟩,by (refine weak_fg ?_;push_cast [iO,tN,hs,Option.isSome_some,Option.getD_some]),by simp only;omega⟩
    | some b =>
     cases hb:bless s b with
     | true =>
      have hm:minS (freeV c.modules W L) (some b) s=some s:=by unfold minS;rw [if_pos hf.symm];simp only;rw [if_pos hb]
      repeat' (first|((first|refine pC ?_|refine pQC ?_|refine pU ?_);push_cast [iO,tN,hs,hb,Option.isSome_some,Option.getD_some])|(refine pif (fun h=>?_) (fun h=>?_)<;>first|exact pN h|push_cast [iO,tN,hs,hb,Option.isSome_some,Option.getD_some]))
      exact ⟨(i+1,some s),⟨by simp only;omega,by simp only;rw [hnx,hm]⟩,by (refine weak_fg ?_;push_cast [iO,tN,hs,Option.isSome_some,Option.getD_some]),by simp only;omega⟩
     | false =>
      have hm:minS (freeV c.modules W L) (some b) s=some b:=by unfold minS;rw [if_pos hf.symm];simp only;rw [if_neg (by simp [hb])]
      repeat' (first|((first|refine pC ?_|refine pQC ?_|refine pU ?_);push_cast [iO,tN,hs,hb,Option.isSome_some,Option.getD_some])|(refine pif (fun h=>?_) (fun h=>?_)<;>first|exact pN h|push_cast [iO,tN,hs,hb,Option.isSome_some,Option.getD_some]))
      exact ⟨(i+1,some b),⟨by simp only;omega,by simp only;rw [hnx,hm]⟩,by (refine weak_fg ?_;push_cast [iO,tN,hs,Option.isSome_some,Option.getD_some]),by simp only;omega⟩
 have hi2:i=L.length:=by omega
 rw [hi2,List.take_length,min_find hI.asc hmem,funext (freeV_congr hmem)] at ho
 cases o with
 | none =>
  have hfin:=hI.stop ho.symm
  have hun:unlM c.modules W loaded=(gone,st):=hfin
  have hpl:planL c.modules loaded W=out++(ordM c.modules L (restM L W)).map fun s=>((8:Int),s):=by
   unfold planL
   rw [hun,hout,ord_left hmem]
  have hor:=rOrder_pure c W L hc hW (by omega)
  have hox:=ord_len c.modules L (restM L W)
  have hrx:=(restM_spec L W).2.2
  obtain ⟨d,hd⟩:∃ d,ordM c.modules L (restM L W)=d:=⟨_,rfl⟩
  rw [hd] at hor hox hpl
  push_cast [iO,tN]
  repeat' (first|((refine plc [] (hor) ?_ ?_;push_cast [iO,tN,Option.isSome_none];rintro r os ⟨rfl,rfl⟩;push_cast [iO,tN,Option.isSome_none]))|((first|refine pC ?_|refine pQC ?_|refine pU ?_);push_cast [iO,tN,Option.isSome_none])|(refine pif (fun h=>?_) (fun h=>?_)<;>first|exact pN h|push_cast [iO,tN,Option.isSome_none]))
  (apply pwp_loop3 (α:=Nat × List (Int × ByteArray)) 20 [] (fun y=>[(19,.c (.v (.int .i64 y.1))),(7,.c (.own 1 (y.2.length)))]) (fun y=>[(1,.arr 40 14 (y.2.map opR))]) (fun y=>y.1≤d.length∧y.2=out++(d.take y.1).map fun s=>((8:Int),s)) (fun y=>d.length - y.1) ((0,out));(focus ((try push_cast [iO,tN]);rfl));(focus exact ⟨by omega,by simp⟩);(focus ((refine weak_fg ?_;try push_cast [iO,tN]))))
  rintro ⟨j,l2⟩ ⟨hj,hl2x⟩
  simp only at hj hl2x ⊢
  have hll2:l2.length≤10000:=by rw [hl2x,List.length_append,List.length_map,List.length_take];omega
  push_cast [iO,tN]
  by_cases hjt:j < d.length
  ·have hnx:out++(d.take (j+1)).map (fun s=>((8:Int),s))=l2++[((8:Int),d.getD j default)]:=by
    rw [List.take_succ_eq_append_getElem hjt,List.map_append,getD_lt d hjt,hl2x,List.append_assoc];rfl
   repeat' (first|((first|refine pC ?_|refine pQC ?_|refine pU ?_);push_cast [iO,tN])|(refine pif (fun h=>?_) (fun h=>?_)<;>first|exact pN h|push_cast [iO,tN]))
   exact ⟨(j+1,l2++[((8:Int),d.getD j default)]),⟨by simp only;omega,hnx.symm⟩,by (refine weak_fg ?_;push_cast [iO,tN]),by simp only;omega⟩
  have hj2:j=d.length:=by omega
  rw [hj2,List.take_length,← hpl] at hl2x
  have e3:=List.take_of_length_le (l:=l2.map opR) (i:=l2.length) (by simp)
  refine pwp_weak (weak_frz 1 (Nat.zero_le _)) ?_
  push_cast [iO,tN,e3]
  repeat' (first|((first|refine pC ?_|refine pQC ?_|refine pU ?_);push_cast [iO,tN])|(refine pif (fun h=>?_) (fun h=>?_)<;>first|exact pN h|push_cast [iO,tN]))
  (refine retK_of [] ?_;push_cast [iO,tN])
  rw [hl2x]
 | some b =>
  have hst:=hI.step ho.symm
  have hbm:b ∈ L:=(hmem b).2 (List.mem_of_find?_eq_some ho.symm)
  push_cast [iO,tN]
  repeat' (first|((first|refine pC ?_|refine pQC ?_|refine pU ?_);push_cast [iO,tN,Option.isSome_some,Option.getD_some])|(refine pif (fun h=>?_) (fun h=>?_)<;>first|exact pN h|push_cast [iO,tN,Option.isSome_some,Option.getD_some]))
  refine pwp_weak (weak_adopt 16 9 1 (by omega) (by push_cast [iO,tN])) ?_
  push_cast [iO,tN]
  (apply pwp_loop3 (α:=Nat) 20 [] (fun k=>[(17,.c (.v (.int .i64 k))),(16,.c (.own 2 ((restL L b k).length)))]) (fun k=>[(2,.arr 9 1 ((restL L b k).map strD))]) (fun k=>k≤L.length) (fun k=>L.length - k) (0);(focus ((try push_cast [iO,tN]);rfl));(focus exact (by omega));(focus ((refine weak_fg ?_;try push_cast [iO,tN]);(try (exact ⟨rfl,rfl⟩)))))
  intro k hk
  push_cast [iO,tN]
  have hrl:=restL_len L b k
  by_cases hkt:k < L.length
  ·by_cases hne:L.getD k default=b
   ·have hs:=restL_f hkt hne
    repeat' (first|((first|refine pC ?_|refine pQC ?_|refine pU ?_);push_cast [iO,tN,hne,ne_eq,not_true_eq_false])|(refine pif (fun h=>?_) (fun h=>?_)<;>first|exact pN h|push_cast [iO,tN,hne,ne_eq,not_true_eq_false]))
    exact ⟨k+1,by omega,by (refine weak_fg ?_;push_cast [iO,tN,hs]),by omega⟩
   ·have hs:=restL_t hkt hne
    repeat' (first|((first|refine pC ?_|refine pQC ?_|refine pU ?_);push_cast [iO,tN,hne,ne_eq,not_false_eq_true])|(refine pif (fun h=>?_) (fun h=>?_)<;>first|exact pN h|push_cast [iO,tN,hne,ne_eq,not_false_eq_true]))
    exact ⟨k+1,by omega,by (refine weak_fg ?_;push_cast [iO,tN,hs]),by omega⟩
  ·rw [restL_end hkt] at hrl ⊢
   have hlt2:=filt_lt hbm
   have hmem2:∀ y,y ∈ (L.filter fun x=>decide (x≠b)) ↔ y ∈ (st.filter fun x=>decide (x≠b)):=fun y=>by rw [List.mem_filter,List.mem_filter,hmem]
   obtain ⟨R',hR'⟩:∃ R',(L.filter fun x=>decide (x≠b))=R':=⟨_,rfl⟩
   rw [hR'] at hrl hlt2 hmem2 ⊢
   have htk:=List.take_of_length_le (l:=R'.map strD) (i:=R'.length) (by simp)
   refine pwp_weak (weak_frz 2 (Nat.zero_le _)) ?_
   push_cast [iO,tN,htk]
   repeat' (first|((first|refine pC ?_|refine pQC ?_|refine pU ?_);push_cast [iO,tN])|(refine pif (fun h=>?_) (fun h=>?_)<;>first|exact pN h|push_cast [iO,tN]))
   exact ⟨(out++[((9:Int),b)],R'),⟨gone++[b],st.filter fun x=>decide (x≠b),by simp only [hout,List.map_append,List.map_cons,List.map_nil],hst,hmem2,by simp only;omega⟩,by (refine weak_fg ?_;push_cast [iO,tN]),by simp only;omega⟩
set_option maxRecDepth 20000
end Go.Proofs.Ytmjffgienmcabaa
namespace Go.Proofs.Ytmjffgienmcabaa
open Go.RowKit
open IntWalk renaming iteOmega → iO, toNatUp → tN
set_option linter.unusedVariables false
set_option linter.unusedSimpArgs false
structure OkMod (m:Mod):Prop where
 needs:m.needs.length≤10
 pre:m.pre.length≤10
 post:m.post.length≤10
 needsz:∀ x ∈ m.needs,x.size≤10
 prez:∀ x ∈ m.pre,x.size≤10
 postz:∀ x ∈ m.post,x.size≤10
 name:m.name≠⟨#[]⟩
 namez:m.name.size≤10
structure OkCfg (c:Cfg):Prop where
 mods:∀ m ∈ c.modules,OkMod m
 len:c.modules.length≤10
 nodup:(c.modules.map Mod.name).Nodup
 off:c.off.length≤10
theorem pick_size {L:List Int} {k:Nat} {l:List ByteArray} (h0:0 < l.length) (h:∀ x ∈ l,x.size≤10):(pick L k l).size≤10:=by
 have:=fold_bds (tapeAt L k) l.length (by omega)
 unfold pick
 rw [getD_lt _ (by omega)]
 exact h _ (List.getElem_mem _)
theorem OkCfg.soft {c:Cfg} (h:OkCfg c) (n:ByteArray):(softOf c.modules n).length≤20∧∀ x ∈ softOf c.modules n,x.size≤10:=by
 unfold softOf
 cases hm:modOf c.modules n with
 | none=>simp [noMod]
 | some m =>
  have hk:=h.mods m (mod_mem hm).1
  refine ⟨by have:=hk.pre;have:=hk.post;simp only [Option.getD_some,List.length_append];omega,fun x hx=>?_⟩
  rcases List.mem_append.1 hx with hx|hx
  ·exact hk.prez x hx
  ·exact hk.postz x hx
theorem OkCfg.ok {c:Cfg} (h:OkCfg c):CfgOk2 c:=by
 have hz:(10:Nat)≤maxLen:=by unfold maxLen;omega
 refine ⟨⟨⟨by have:=h.len;omega,fun m hm=>by have:=(h.mods m hm).needs;omega,fun m hm=>by have:=(h.mods m hm).pre;omega,fun m hm=>by have:=(h.mods m hm).post;omega,h.nodup,fun m hm=>(h.mods m hm).name⟩,⟨fun x hx=>?_⟩,by have:=h.off;omega⟩,fun n x hx=>Nat.le_trans ((h.soft n).2 x hx) hz,fun n=>by have:=(h.soft n).1;omega⟩
 obtain ⟨m,hm,hx⟩:=List.mem_flatMap.1 hx
 exact Nat.le_trans ((h.mods m hm).needsz x hx) hz
theorem OkCfg.hnz {c:Cfg} (h:OkCfg c):∀ x ∈ c.modules.map Mod.name,x.size≤maxLen:=by
 have hz:(10:Nat)≤maxLen:=by unfold maxLen;omega
 intro x hx
 obtain ⟨m,hm,rfl⟩:=List.mem_map.1 hx
 exact Nat.le_trans (h.mods m hm).namez hz
end Go.Proofs.Ytmjffgienmcabaa
