/- What the program computes, and the plain laws of it, part 28. -/
import Derived.WideKeyEntry
import Derived.Test.YthhfpcbpiphfiaaGreatDoorR27
namespace Go.Proofs.YthhfpcbpiphfiaaGreatDoor
attribute [local irreducible] PL QL PWPr PCalls Weak RetK Kontr PA
open Go.RowKit
open IntWalk renaming iteOmega → iO, toNatUp → tN
set_option linter.unusedVariables false
set_option linter.unusedSimpArgs false
set_option maxRecDepth 20000
structure GoodA (l:Alts):Prop where
 sm:SmallA l
 set:∀ a,∀ e ∈ altV l a,e.set.length=127
theorem GoodA.ok {l:Alts} (h:GoodA l):AltsOk l:=⟨by have:=h.sm.len;omega,fun a=>by have:=h.sm.els a;omega,h.set⟩
theorem prk_good {p q:Alts} {x:Pr} (h:PrOk p q x) (hp:SmallA p) (hq:SmallA q):GoodK 4 x.k:=by
 have h1:=h.a;have h2:=h.i;have h3:=h.b;have h4:=h.j
 have h5:=hp.len;have h6:=hp.els x.pa;have h7:=hq.len;have h8:=hq.els x.qa
 refine ⟨[x.pa,x.pi,x.qa,x.qi],rfl,rfl,fun n hn=>?_⟩
 simp only [List.mem_cons,List.not_mem_nil,or_false] at hn
 rcases hn with rfl|rfl|rfl|rfl<;>omega
theorem prk_inj {x y:Pr} (h:x.k=y.k):x=y:=by
 obtain ⟨a,b,c,d⟩:=x
 obtain ⟨a',b',c',d'⟩:=y
 unfold Pr.k at h
 simp only [MK.t.injEq,List.cons.injEq,Int.natCast_inj,and_true] at h
 obtain ⟨rfl,rfl,rfl,rfl⟩:=h
 rfl
def costD (p q:Alts) (x:Pr):List D:=[.v (.int .i64 (costV p q x))]
def MemoOk (p q:Alts) (es:List (MK × List D)):Prop:=∀ e ∈ es,∃ y,PrOk p q y∧e=(y.k,costD p q y)
theorem MemoOk.good {p q:Alts} {es:List (MK × List D)} (h:MemoOk p q es) (hp:SmallA p) (hq:SmallA q):∀ e ∈ es,GoodK 4 e.1:=by
 intro e he
 obtain ⟨y,hy,rfl⟩:=h e he
 exact prk_good hy hp hq
theorem MemoOk.get {p q:Alts}:∀ {es:List (MK × List D)} (h:MemoOk p q es) (x:Pr),mget es x.k=none∨mget es x.k=some (costD p q x)
 | [],_,x=>.inl rfl
 | (k,r) :: es,h,x=>by
  obtain ⟨y,hy,he⟩:=h (k,r) (by simp)
  cases he
  rw [mget]
  split
  ·rename_i e
   rw [prk_inj e]
   exact .inr rfl
  ·exact MemoOk.get (fun e he=>h e (by simp [he])) x
theorem MemoOk.put {p q:Alts} {x:Pr} (hx:PrOk p q x):∀ {es:List (MK × List D)} (h:MemoOk p q es),MemoOk p q (mput es x.k (costD p q x))
 | [],h=>by
  intro e he
  rw [mput,List.mem_singleton] at he
  exact ⟨x,hx,he⟩
 | (k,r) :: es,h=>by
  intro e he
  rw [mput] at he
  split at he
  ·rcases List.mem_cons.1 he with rfl|he
   ·exact ⟨x,hx,by rename_i hk;rw [hk]⟩
   ·exact h e (by simp [he])
  ·rcases List.mem_cons.1 he with rfl|he
   ·exact h _ (by simp)
   ·exact MemoOk.put hx (fun e he=>h e (by simp [he])) e he
set_option maxHeartbeats 1000000 in
theorem glessC_pure (b n:Int) (hb : -1≤b∧b≤1000000) (hn : -1≤n∧n≤1000000):PCalls Tryz.prog 49 [.c (.v (.int .i64 n)),.c (.ptr 0 0)] [.box 3 [.v (.int .i64 b)]] fun r os=>r = .undef∧os=[.box 3 [.v (.int .i64 (lessV b n))]]:=by
 refine pcalls_of Tryz.func49 rfl (by simp [Tryz.ntmps49]) ?_
 rw [Tryz.ntmps49,Tryz.results49]
 push_cast [iO,tN]
 have cB:CutB 3 [13]:=trivial
 unfold lessV
 by_cases h1:0≤n
 ·by_cases h2:b < 0
  ·rw [if_pos ⟨h1,.inl h2⟩]
   repeat' (first|((first|refine pC ?_|refine pQC ?_|refine pU ?_);push_cast [iO,tN,h1,h2])|(refine pif (fun h=>?_) (fun h=>?_)<;>first|exact pN h|push_cast [iO,tN,h1,h2]))
   (refine retK_of [0] ?_;push_cast [iO,tN])
  ·by_cases h3:n < b
   ·rw [if_pos ⟨h1,.inr h3⟩]
    repeat' (first|((first|refine pC ?_|refine pQC ?_|refine pU ?_);push_cast [iO,tN,h1,h2,h3])|(refine pif (fun h=>?_) (fun h=>?_)<;>first|exact pN h|push_cast [iO,tN,h1,h2,h3]))
    (refine retK_of [0] ?_;push_cast [iO,tN])
   ·rw [if_neg (by rintro ⟨_,h|h⟩<;>omega)]
    repeat' (first|((first|refine pC ?_|refine pQC ?_|refine pU ?_);push_cast [iO,tN,h1,h2,h3])|(refine pif (fun h=>?_) (fun h=>?_)<;>first|exact pN h|push_cast [iO,tN,h1,h2,h3]))
    (refine retK_of [0] ?_;push_cast [iO,tN])
 ·rw [if_neg (by rintro ⟨h,_⟩;exact h1 h)]
  repeat' (first|((first|refine pC ?_|refine pQC ?_|refine pU ?_);push_cast [iO,tN,h1])|(refine pif (fun h=>?_) (fun h=>?_)<;>first|exact pN h|push_cast [iO,tN,h1]))
  (refine retK_of [0] ?_;push_cast [iO,tN])
def bestJ (p q:Alts) (x:Pr) (ys:List Pr) (j:Nat):Int:=(ys.take j).foldl (fun b y=>lessV b (costV p q y)) (endV p q x)
theorem bestJ_next {p q:Alts} {x:Pr} {ys:List Pr} {j:Nat} (h:j < ys.length):bestJ p q x ys (j+1)=lessV (bestJ p q x ys j) (costV p q (ys.getD j default)):=by
 unfold bestJ
 rw [List.take_succ_eq_append_getElem h,List.foldl_append,getD_lt ys h]
 rfl
theorem bestJ_bound {p q:Alts} {x:Pr} {ys:List Pr} (hy:∀ y ∈ ys,-1≤costV p q y∧costV p q y≤2000):∀ j,j≤ys.length → -1≤bestJ p q x ys j∧bestJ p q x ys j≤2000
 | 0,_=>by
  unfold bestJ endV
  rw [List.take_zero,List.foldl_nil]
  split<;>constructor<;>omega
 | j+1,h=>by
  rw [bestJ_next (by omega)]
  exact lessV_b (bestJ_bound hy j (by omega)) (hy _ (by rw [getD_lt ys (by omega)];exact List.getElem_mem _))
theorem stepV_len {p q:Alts} {x y:Pr} {s:List Bool} (h:stepV p q x=some (y,s)):s.length=127:=by
 unfold stepV at h
 split at h
 ·split at h
  ·cases h
  ·cases h
   unfold bothV
   rw [List.length_map,List.length_range]
 ·cases h
set_option maxHeartbeats 8000000 in
theorem gcost_pure (p q:Alts) (hp:GoodA p) (hq:GoodA q):∀ (n:Nat) (x:Pr) (es:List (MK × List D)),measV p q x < n → PrOk p q x → MemoOk p q es →
  PCalls Tryz.prog 29 [.c (.ptr 0 0),.agg x.e] (srO p q es) fun r os=>∃ es',MemoOk p q es'∧r = .c (.v (.int .i64 (costV p q x)))∧os=srO p q es':=by
 intro n
 induction n with
 | zero=>intro x es h;exact absurd h (Nat.not_lt_zero _)
 | succ n ih =>
 intro x es hn hx hm
 have ha':(x.pa:Int) < (p.length:Int):=by have:=hx.a;omega
 have hb':(x.qa:Int) < (q.length:Int):=by have:=hx.b;omega
 have hA:p.getD x.pa default=altV p x.pa:=rfl
 have hB:q.getD x.qa default=altV q x.qa:=rfl
 have hgk:=prk_good hx hp.sm hq.sm
 have hes:=hm.good hp.sm hq.sm
 have hsk:=gskips_pure p q es x hx hp.ok hq.ok
 have hyk:∀ y ∈ skipsV p q x,PrOk p q y∧measV p q y < measV p q x:=fun y hy=>skipsV_ok hx hy
 have hyb:∀ y ∈ skipsV p q x,-1≤costV p q y∧costV p q y≤2000:=fun y hy=>costV_few (hyk y hy).1 hp.sm hq.sm
 have hyl:=skipsV_len p q x
 have hcs:=costV_step hx
 have hcb:=costV_few hx hp.sm hq.sm
 refine pcalls_of Tryz.func29 rfl (by simp [Tryz.ntmps29]) ?_
 rw [Tryz.ntmps29,Tryz.results29]
 push_cast [iO,tN]
 have cB:CutB 15 [24,56,60,61,62,63,79,84]:=trivial
 repeat' (first |  (refine hidR 1 ?_)  | ((first|refine pC ?_|refine pQC ?_|refine pU ?_);push_cast [iO,tN])|(refine pif (fun h=>?_) (fun h=>?_)<;>first|exact pN h|push_cast [iO,tN]))
 refine unhid ?_
 rcases hm.get x with hg|hg
 ·(refine pwp_cut 15 [24,56,60,61,62,63,79,84] ?_;apply pwp_drawn_to;(focus kernel_rfl);(focus (simp only [List.length_cons,List.length_nil,Nat.reduceAdd];(repeat' first|(refine pl_lookW (kt:=82) (e:=3) (n:=4) (k:=1) (ag:=false) (ns:=[(x.pa:Int),x.pi,x.qa,x.qi]) (es:=es) (z:=.c (.v (.int .i64 ((0:Int))))) (q:=.two (.c (.v (.int .i64 ((0:Int))))) (.c (.v (.bool false)))) prW rfl (by push_cast [iO,tN]) (by push_cast [iO,tN]) Tryz.underlying75 rfl rfl rfl hgk hes (by kernel_rfl) (by rw [show MK.t [(x.pa:Int),x.pi,x.qa,x.qi]=x.k from rfl,hg];rfl) ?_;refine pl_of_pops ?_;push_cast [iO,tN])|((first|refine pah 0 ?_|refine pah 1 ?_|refine pah 2 ?_|refine pah 6 ?_|refine pah 7 ?_|refine pah 8 ?_|refine pah 9 ?_|refine pah 10 ?_);push_cast [iO,tN])|((first|refine pal 3 ?_|refine pal 4 ?_);push_cast [iO,tN])|(refine pad ?_;first|with_reducible exact weak_cutS 15 [24,56,60,61,62,63,79,84] _|(refine weak_fg ?_;push_cast [iO,tN]))|((first|refine pas [5] ?_);push_cast [iO,tN]));done));push_cast [iO,tN])
  have hlp:(altsD p).length=p.length:=by unfold altsD;rw [List.length_map]
  have hlq:(altsD q).length=q.length:=by unfold altsD;rw [List.length_map]
  have hrp:(altsD p).getD x.pa []=[.sl 129 ((altV p x.pa).map El.d)]:=by
   unfold altsD altV
   have h:x.pa < (p.map fun l=>[D.sl 129 (l.map El.d)]).length:=by rw [List.length_map];exact hx.a
   rw [List.getD_eq_getElem?_getD,List.getElem?_eq_getElem h,Option.getD_some,List.getElem_map,getD_lt p hx.a]
  have hrq:(altsD q).getD x.qa []=[.sl 129 ((altV q x.qa).map El.d)]:=by
   unfold altsD altV
   have h:x.qa < (q.map fun l=>[D.sl 129 (l.map El.d)]).length:=by rw [List.length_map];exact hx.b
   rw [List.getD_eq_getElem?_getD,List.getElem?_eq_getElem h,Option.getD_some,List.getElem_map,getD_lt q hx.b]
  obtain ⟨A,hA2⟩:∃ A,altV p x.pa=A:=⟨_,rfl⟩
  obtain ⟨B,hB2⟩:∃ B,altV q x.qa=B:=⟨_,rfl⟩
  have hend:endV p q x=if x.pi=A.length∧x.qi=B.length then 0 else -1:=by unfold endV;rw [hA2,hB2]
  rw [hA2] at hrp
  rw [hB2] at hrq
  obtain ⟨ys,hys⟩:∃ ys,skipsV p q x=ys:=⟨_,rfl⟩
  rw [hys] at hsk hyk hyb hyl hcs
  have hb0:bestJ p q x ys 0=endV p q x:=rfl
  by_cases hpi:x.pi=A.length
  ·have hpi':((x.pi:Int)=(A.length:Int))=True:=eq_true (by omega)
   by_cases hqi:x.qi=B.length
   ·have hqi':((x.qi:Int)=(B.length:Int))=True:=eq_true (by omega)
    rw [if_pos ⟨hpi,hqi⟩] at hend
    repeat' (first|((refine plc [0,1] (hsk) ?_ ?_;push_cast [iO,tN,hlp,hlq,hrp,hrq,hpi',hqi',ha',hb'];rintro r os ⟨rfl,rfl⟩;push_cast [iO,tN,hlp,hlq,hrp,hrq,hpi',hqi',ha',hb']))|((first|refine pC ?_|refine pQC ?_|refine pU ?_);push_cast [iO,tN,hlp,hlq,hrp,hrq,hpi',hqi',ha',hb'])|(refine pif (fun h=>?_) (fun h=>?_)<;>first|exact pN h|push_cast [iO,tN,hlp,hlq,hrp,hrq,hpi',hqi',ha',hb']))
    (apply pwp_loop3 (α:=Nat × List (MK × List D)) 15 [24,56,60,61,62,63,79,84] (fun z=>[(62,.c (.v (.int .i64 z.1)))]) (fun z=>[(1,.map (some (.wide 4)) false z.2),(3,.box 3 [.v (.int .i64 (bestJ p q x ys z.1))])]) (fun z=>z.1≤ys.length∧MemoOk p q z.2) (fun z=>ys.length - z.1) ((0,es));(focus ((try push_cast [iO,tN]);rfl));(focus exact ⟨by omega,hm⟩);(focus ((refine weak_fg ?_;try push_cast [iO,tN]);(try (exact (hb0.trans hend).symm)))))
    rintro ⟨j,fs⟩ ⟨hj,hfs⟩
    simp only at hj hfs ⊢
    push_cast [iO,tN]
    by_cases hlt:j < ys.length
    ·have hyy:ys.getD j default ∈ ys:=by rw [getD_lt ys hlt];exact List.getElem_mem _
     have hnx:=bestJ_next (p:=p) (q:=q) (x:=x) hlt
     have hbb:=bestJ_bound (p:=p) (q:=q) (x:=x) hyb j (by omega)
     obtain ⟨y,hy⟩:∃ y,ys.getD j default=y:=⟨_,rfl⟩
     rw [hy] at hyy hnx
     obtain ⟨hyo,hyl⟩:=hyk y hyy
     have hyc:=hyb y hyy
     have hC:=ih y fs (by omega) hyo hfs
     have hL:=glessC_pure (bestJ p q x ys j) (costV p q y) ⟨hbb.1,by omega⟩ ⟨hyc.1,by omega⟩
     rw [← hnx] at hL
     obtain ⟨c,hc⟩:∃ c,costV p q y=c:=⟨_,rfl⟩
     rw [hc] at hC hL hyc
     repeat' (first|((refine plc [0,1] (hC) ?_ ?_;push_cast [iO,tN,hy,Pr.d];rintro r os ⟨fs',hf',rfl,rfl⟩;push_cast [iO,tN,hy,Pr.d]))|((refine plc [3] (hL) ?_ ?_;push_cast [iO,tN,hy,Pr.d];rintro r os ⟨rfl,rfl⟩;push_cast [iO,tN,hy,Pr.d]))|((first|refine pC ?_|refine pQC ?_|refine pU ?_);push_cast [iO,tN,hy,Pr.d])|(refine pif (fun h=>?_) (fun h=>?_)<;>first|exact pN h|push_cast [iO,tN,hy,Pr.d]))
     exact ⟨(j+1,fs'),⟨by simp only;omega,hf'⟩,by (refine weak_fg ?_;push_cast [iO,tN]),by simp only;omega⟩
    ·have hjl:j=ys.length:=by omega
     subst hjl
     have hbb:=bestJ_bound (p:=p) (q:=q) (x:=x) hyb ys.length (Nat.le_refl _)
     have hbe:bestJ p q x ys ys.length=ys.foldl (fun b y=>lessV b (costV p q y)) (endV p q x):=by unfold bestJ;rw [List.take_length]
     rw [← hbe] at hcs
     obtain ⟨b0,hb00⟩:∃ b0,bestJ p q x ys ys.length=b0:=⟨_,rfl⟩
     rw [hb00] at hcs hbb ⊢
     have hst:=gstep_pure p q fs x hx hp.ok hq.ok
     cases hsv:stepV p q x with
     | none =>
      have hR:stepR p q x = .three (.agg zeroPr.e) (.agg ((List.replicate 127 false).map boolE)) (.c (.v (.bool false))):=by unfold stepR;rw [hsv]
      rw [hsv] at hcs
      simp only at hcs
      rw [hR] at hst
      rw [← hcs]
      repeat' (first |  ((refine plc [0,1] (hst) ?_ ?_;push_cast [iO,tN];rintro r os ⟨rfl,rfl⟩;push_cast [iO,tN]))|(refine hidR 18 ?_)  | ((first|refine pC ?_|refine pQC ?_|refine pU ?_);push_cast [iO,tN])|(refine pif (fun h=>?_) (fun h=>?_)<;>first|exact pN h|push_cast [iO,tN]))
      have hfg:=hfs.good hp.sm hq.sm
      have hmp:=hfs.put hx
      refine unhid ?_
      (refine pwp_cut 15 [24,56,60,61,62,63,79,84] ?_;apply pwp_drawn_to;(focus kernel_rfl);(focus (simp only [List.length_cons,List.length_nil,Nat.reduceAdd];(repeat' first|(refine pl_updW (kt:=82) (e:=3) (n:=4) (k:=1) (ag:=false) (ns:=[(x.pa:Int),x.pi,x.qa,x.qi]) (es:=fs) (row:=costD p q x) prW rfl (by push_cast [iO,tN]) (by push_cast [iO,tN]) Tryz.underlying75 rfl rfl rfl hgk hfg rfl ?_;refine pl_of_pops ?_;push_cast [iO,tN])|((first|refine pah 0 ?_|refine pah 1 ?_|refine pah 2 ?_);push_cast [iO,tN])|((first|refine pal 3 ?_|refine pal 4 ?_|refine pal 5 ?_);push_cast [iO,tN])|(refine pad ?_;first|with_reducible exact weak_cutS 15 [24,56,60,61,62,63,79,84] _|(refine weak_fg ?_;push_cast [iO,tN]))|((first|refine pas [6] ?_);push_cast [iO,tN]));done));push_cast [iO,tN])
      (refine retK_of [0,1] ?_;push_cast [iO,tN])
      exact ⟨_,_,leP_refl _,leOs_refl _,_,hmp,rfl,rfl⟩
     | some st =>
      obtain ⟨y,s⟩:=st
      have hR:stepR p q x = .three (.agg y.e) (.agg (s.map boolE)) (.c (.v (.bool (anyB s)))):=by unfold stepR;rw [hsv]
      have hsl:=stepV_len hsv
      obtain ⟨hyo,hyl⟩:=stepV_ok hx hsv
      have hyc:=costV_few hyo hp.sm hq.sm
      rw [hsv] at hcs
      simp only at hcs
      rw [hR] at hst
      obtain ⟨B0,hB0⟩:∃ B0,s.map boolE=B0:=⟨_,rfl⟩
      have lB0:B0.length=127:=by rw [← hB0,List.length_map];exact hsl
      have kB0:∀ n,B0.all (keyOk n)=true:=fun n=>by rw [← hB0,List.all_map];exact List.all_eq_true.2 fun _ _=>rfl
      have rB0:∀ r,B0.map (E.ren r)=B0:=fun r=>by rw [← hB0,List.map_map];rfl
      rw [hB0] at hst
      cases han:anyB s with
      | false =>
       rw [han] at hst
       rw [if_neg (by rw [han];rintro ⟨h,_⟩;cases h)] at hcs
       rw [← hcs]
       repeat' (first|((refine plc [0,1] (hst) ?_ ?_;push_cast [iO,tN,lB0,kB0,rB0];rintro r os ⟨rfl,rfl⟩;push_cast [iO,tN,lB0,kB0,rB0]))|(refine hidR 18 ?_)|((first|refine pC ?_|refine pQC ?_|refine pU ?_);push_cast [iO,tN,lB0,kB0,rB0])|(refine pif (fun h=>?_) (fun h=>?_)<;>first|exact pN h|push_cast [iO,tN,lB0,kB0,rB0]))
       have hfg:=hfs.good hp.sm hq.sm
       have hmp:=hfs.put hx
       refine unhid ?_
       (refine pwp_cut 15 [24,56,60,61,62,63,79,84] ?_;apply pwp_drawn_to;(focus kernel_rfl);(focus (simp only [List.length_cons,List.length_nil,Nat.reduceAdd];(repeat' first|(refine pl_updW (kt:=82) (e:=3) (n:=4) (k:=1) (ag:=false) (ns:=[(x.pa:Int),x.pi,x.qa,x.qi]) (es:=fs) (row:=costD p q x) prW rfl (by push_cast [iO,tN]) (by push_cast [iO,tN]) Tryz.underlying75 rfl rfl rfl hgk hfg rfl ?_;refine pl_of_pops ?_;push_cast [iO,tN])|((first|refine pah 0 ?_|refine pah 1 ?_|refine pah 2 ?_);push_cast [iO,tN])|((first|refine pal 3 ?_|refine pal 4 ?_|refine pal 5 ?_);push_cast [iO,tN])|(refine pad ?_;first|with_reducible exact weak_cutS 15 [24,56,60,61,62,63,79,84] _|(refine weak_fg ?_;push_cast [iO,tN]))|((first|refine pas [6] ?_);push_cast [iO,tN]));done));push_cast [iO,tN])
       (refine retK_of [0,1] ?_;push_cast [iO,tN])
       exact ⟨_,_,leP_refl _,leOs_refl _,_,hmp,rfl,rfl⟩
      | true =>
       rw [han] at hst hcs
       have hC:=ih y fs (by omega) hyo hfs
       obtain ⟨c,hc⟩:∃ c,costV p q y=c:=⟨_,rfl⟩
       rw [hc] at hC hcs hyc
       by_cases hc0:0≤c
       ·rw [if_pos ⟨rfl,hc0⟩] at hcs
        have hL:=glessC_pure b0 (c+1) ⟨hbb.1,by omega⟩ ⟨by omega,by omega⟩
        rw [← hcs] at hL
        repeat' (first|((refine plc [0,1] (hst) ?_ ?_;push_cast [iO,tN,lB0,kB0,rB0,hc0];rintro r os ⟨rfl,rfl⟩;push_cast [iO,tN,lB0,kB0,rB0,hc0]))|((refine plc [0,1] (hC) ?_ ?_;push_cast [iO,tN,lB0,kB0,rB0,hc0];rintro r os ⟨fs,hfs,rfl,rfl⟩;push_cast [iO,tN,lB0,kB0,rB0,hc0]))|((refine plc [3] (hL) ?_ ?_;push_cast [iO,tN,lB0,kB0,rB0,hc0];rintro r os ⟨rfl,rfl⟩;push_cast [iO,tN,lB0,kB0,rB0,hc0]))|(refine hidR 18 ?_)|((first|refine pC ?_|refine pQC ?_|refine pU ?_);push_cast [iO,tN,lB0,kB0,rB0,hc0])|(refine pif (fun h=>?_) (fun h=>?_)<;>first|exact pN h|push_cast [iO,tN,lB0,kB0,rB0,hc0]))
        have hfg:=hfs.good hp.sm hq.sm
        have hmp:=hfs.put hx
        refine unhid ?_
        (refine pwp_cut 15 [24,56,60,61,62,63,79,84] ?_;apply pwp_drawn_to;(focus kernel_rfl);(focus (simp only [List.length_cons,List.length_nil,Nat.reduceAdd];(repeat' first|(refine pl_updW (kt:=82) (e:=3) (n:=4) (k:=1) (ag:=false) (ns:=[(x.pa:Int),x.pi,x.qa,x.qi]) (es:=fs) (row:=costD p q x) prW rfl (by push_cast [iO,tN]) (by push_cast [iO,tN]) Tryz.underlying75 rfl rfl rfl hgk hfg rfl ?_;refine pl_of_pops ?_;push_cast [iO,tN])|((first|refine pah 0 ?_|refine pah 1 ?_|refine pah 2 ?_);push_cast [iO,tN])|((first|refine pal 3 ?_|refine pal 4 ?_|refine pal 5 ?_);push_cast [iO,tN])|(refine pad ?_;first|with_reducible exact weak_cutS 15 [24,56,60,61,62,63,79,84] _|(refine weak_fg ?_;push_cast [iO,tN]))|((first|refine pas [6] ?_);push_cast [iO,tN]));done));push_cast [iO,tN])
        (refine retK_of [0,1] ?_;push_cast [iO,tN])
        exact ⟨_,_,leP_refl _,leOs_refl _,_,hmp,rfl,rfl⟩
       ·rw [if_neg fun h=>hc0 h.2] at hcs
        rw [← hcs]
        repeat' (first|((refine plc [0,1] (hst) ?_ ?_;push_cast [iO,tN,lB0,kB0,rB0,hc0];rintro r os ⟨rfl,rfl⟩;push_cast [iO,tN,lB0,kB0,rB0,hc0]))|((refine plc [0,1] (hC) ?_ ?_;push_cast [iO,tN,lB0,kB0,rB0,hc0];rintro r os ⟨fs,hfs,rfl,rfl⟩;push_cast [iO,tN,lB0,kB0,rB0,hc0]))|(refine hidR 18 ?_)|((first|refine pC ?_|refine pQC ?_|refine pU ?_);push_cast [iO,tN,lB0,kB0,rB0,hc0])|(refine pif (fun h=>?_) (fun h=>?_)<;>first|exact pN h|push_cast [iO,tN,lB0,kB0,rB0,hc0]))
        have hfg:=hfs.good hp.sm hq.sm
        have hmp:=hfs.put hx
        refine unhid ?_
        (refine pwp_cut 15 [24,56,60,61,62,63,79,84] ?_;apply pwp_drawn_to;(focus kernel_rfl);(focus (simp only [List.length_cons,List.length_nil,Nat.reduceAdd];(repeat' first|(refine pl_updW (kt:=82) (e:=3) (n:=4) (k:=1) (ag:=false) (ns:=[(x.pa:Int),x.pi,x.qa,x.qi]) (es:=fs) (row:=costD p q x) prW rfl (by push_cast [iO,tN]) (by push_cast [iO,tN]) Tryz.underlying75 rfl rfl rfl hgk hfg rfl ?_;refine pl_of_pops ?_;push_cast [iO,tN])|((first|refine pah 0 ?_|refine pah 1 ?_|refine pah 2 ?_);push_cast [iO,tN])|((first|refine pal 3 ?_|refine pal 4 ?_|refine pal 5 ?_);push_cast [iO,tN])|(refine pad ?_;first|with_reducible exact weak_cutS 15 [24,56,60,61,62,63,79,84] _|(refine weak_fg ?_;push_cast [iO,tN]))|((first|refine pas [6] ?_);push_cast [iO,tN]));done));push_cast [iO,tN])
        (refine retK_of [0,1] ?_;push_cast [iO,tN])
        exact ⟨_,_,leP_refl _,leOs_refl _,_,hmp,rfl,rfl⟩
   ·have hqi':((x.qi:Int)=(B.length:Int))=False:=eq_false (by omega)
    rw [if_neg fun h=>hqi h.2] at hend
    repeat' (first|((refine plc [0,1] (hsk) ?_ ?_;push_cast [iO,tN,hlp,hlq,hrp,hrq,hpi',hqi',ha',hb'];rintro r os ⟨rfl,rfl⟩;push_cast [iO,tN,hlp,hlq,hrp,hrq,hpi',hqi',ha',hb']))|((first|refine pC ?_|refine pQC ?_|refine pU ?_);push_cast [iO,tN,hlp,hlq,hrp,hrq,hpi',hqi',ha',hb'])|(refine pif (fun h=>?_) (fun h=>?_)<;>first|exact pN h|push_cast [iO,tN,hlp,hlq,hrp,hrq,hpi',hqi',ha',hb']))
    (apply pwp_loop3 (α:=Nat × List (MK × List D)) 15 [24,56,60,61,62,63,79,84] (fun z=>[(62,.c (.v (.int .i64 z.1)))]) (fun z=>[(1,.map (some (.wide 4)) false z.2),(3,.box 3 [.v (.int .i64 (bestJ p q x ys z.1))])]) (fun z=>z.1≤ys.length∧MemoOk p q z.2) (fun z=>ys.length - z.1) ((0,es));(focus ((try push_cast [iO,tN]);rfl));(focus exact ⟨by omega,hm⟩);(focus ((refine weak_fg ?_;try push_cast [iO,tN]);(try (exact (hb0.trans hend).symm)))))
    rintro ⟨j,fs⟩ ⟨hj,hfs⟩
    simp only at hj hfs ⊢
    push_cast [iO,tN]
    by_cases hlt:j < ys.length
    ·have hyy:ys.getD j default ∈ ys:=by rw [getD_lt ys hlt];exact List.getElem_mem _
     have hnx:=bestJ_next (p:=p) (q:=q) (x:=x) hlt
     have hbb:=bestJ_bound (p:=p) (q:=q) (x:=x) hyb j (by omega)
     obtain ⟨y,hy⟩:∃ y,ys.getD j default=y:=⟨_,rfl⟩
     rw [hy] at hyy hnx
     obtain ⟨hyo,hyl⟩:=hyk y hyy
     have hyc:=hyb y hyy
     have hC:=ih y fs (by omega) hyo hfs
     have hL:=glessC_pure (bestJ p q x ys j) (costV p q y) ⟨hbb.1,by omega⟩ ⟨hyc.1,by omega⟩
     rw [← hnx] at hL
     obtain ⟨c,hc⟩:∃ c,costV p q y=c:=⟨_,rfl⟩
     rw [hc] at hC hL hyc
     repeat' (first|((refine plc [0,1] (hC) ?_ ?_;push_cast [iO,tN,hy,Pr.d];rintro r os ⟨fs',hf',rfl,rfl⟩;push_cast [iO,tN,hy,Pr.d]))|((refine plc [3] (hL) ?_ ?_;push_cast [iO,tN,hy,Pr.d];rintro r os ⟨rfl,rfl⟩;push_cast [iO,tN,hy,Pr.d]))|((first|refine pC ?_|refine pQC ?_|refine pU ?_);push_cast [iO,tN,hy,Pr.d])|(refine pif (fun h=>?_) (fun h=>?_)<;>first|exact pN h|push_cast [iO,tN,hy,Pr.d]))
     exact ⟨(j+1,fs'),⟨by simp only;omega,hf'⟩,by (refine weak_fg ?_;push_cast [iO,tN]),by simp only;omega⟩
    ·have hjl:j=ys.length:=by omega
     subst hjl
     have hbb:=bestJ_bound (p:=p) (q:=q) (x:=x) hyb ys.length (Nat.le_refl _)
     have hbe:bestJ p q x ys ys.length=ys.foldl (fun b y=>lessV b (costV p q y)) (endV p q x):=by unfold bestJ;rw [List.take_length]
     rw [← hbe] at hcs
     obtain ⟨b0,hb00⟩:∃ b0,bestJ p q x ys ys.length=b0:=⟨_,rfl⟩
     rw [hb00] at hcs hbb ⊢
     have hst:=gstep_pure p q fs x hx hp.ok hq.ok
     cases hsv:stepV p q x with
     | none =>
      have hR:stepR p q x = .three (.agg zeroPr.e) (.agg ((List.replicate 127 false).map boolE)) (.c (.v (.bool false))):=by unfold stepR;rw [hsv]
      rw [hsv] at hcs
      simp only at hcs
      rw [hR] at hst
      rw [← hcs]
      repeat' (first |  ((refine plc [0,1] (hst) ?_ ?_;push_cast [iO,tN];rintro r os ⟨rfl,rfl⟩;push_cast [iO,tN]))|(refine hidR 18 ?_)  | ((first|refine pC ?_|refine pQC ?_|refine pU ?_);push_cast [iO,tN])|(refine pif (fun h=>?_) (fun h=>?_)<;>first|exact pN h|push_cast [iO,tN]))
      have hfg:=hfs.good hp.sm hq.sm
      have hmp:=hfs.put hx
      refine unhid ?_
      (refine pwp_cut 15 [24,56,60,61,62,63,79,84] ?_;apply pwp_drawn_to;(focus kernel_rfl);(focus (simp only [List.length_cons,List.length_nil,Nat.reduceAdd];(repeat' first|(refine pl_updW (kt:=82) (e:=3) (n:=4) (k:=1) (ag:=false) (ns:=[(x.pa:Int),x.pi,x.qa,x.qi]) (es:=fs) (row:=costD p q x) prW rfl (by push_cast [iO,tN]) (by push_cast [iO,tN]) Tryz.underlying75 rfl rfl rfl hgk hfg rfl ?_;refine pl_of_pops ?_;push_cast [iO,tN])|((first|refine pah 0 ?_|refine pah 1 ?_|refine pah 2 ?_);push_cast [iO,tN])|((first|refine pal 3 ?_|refine pal 4 ?_|refine pal 5 ?_);push_cast [iO,tN])|(refine pad ?_;first|with_reducible exact weak_cutS 15 [24,56,60,61,62,63,79,84] _|(refine weak_fg ?_;push_cast [iO,tN]))|((first|refine pas [6] ?_);push_cast [iO,tN]));done));push_cast [iO,tN])
      (refine retK_of [0,1] ?_;push_cast [iO,tN])
      exact ⟨_,_,leP_refl _,leOs_refl _,_,hmp,rfl,rfl⟩
     | some st =>
      obtain ⟨y,s⟩:=st
      have hR:stepR p q x = .three (.agg y.e) (.agg (s.map boolE)) (.c (.v (.bool (anyB s)))):=by unfold stepR;rw [hsv]
      have hsl:=stepV_len hsv
      obtain ⟨hyo,hyl⟩:=stepV_ok hx hsv
      have hyc:=costV_few hyo hp.sm hq.sm
      rw [hsv] at hcs
      simp only at hcs
      rw [hR] at hst
      obtain ⟨B0,hB0⟩:∃ B0,s.map boolE=B0:=⟨_,rfl⟩
      have lB0:B0.length=127:=by rw [← hB0,List.length_map];exact hsl
      have kB0:∀ n,B0.all (keyOk n)=true:=fun n=>by rw [← hB0,List.all_map];exact List.all_eq_true.2 fun _ _=>rfl
      have rB0:∀ r,B0.map (E.ren r)=B0:=fun r=>by rw [← hB0,List.map_map];rfl
      rw [hB0] at hst
      cases han:anyB s with
      | false =>
       rw [han] at hst
       rw [if_neg (by rw [han];rintro ⟨h,_⟩;cases h)] at hcs
       rw [← hcs]
       repeat' (first|((refine plc [0,1] (hst) ?_ ?_;push_cast [iO,tN,lB0,kB0,rB0];rintro r os ⟨rfl,rfl⟩;push_cast [iO,tN,lB0,kB0,rB0]))|(refine hidR 18 ?_)|((first|refine pC ?_|refine pQC ?_|refine pU ?_);push_cast [iO,tN,lB0,kB0,rB0])|(refine pif (fun h=>?_) (fun h=>?_)<;>first|exact pN h|push_cast [iO,tN,lB0,kB0,rB0]))
       have hfg:=hfs.good hp.sm hq.sm
       have hmp:=hfs.put hx
       refine unhid ?_
       (refine pwp_cut 15 [24,56,60,61,62,63,79,84] ?_;apply pwp_drawn_to;(focus kernel_rfl);(focus (simp only [List.length_cons,List.length_nil,Nat.reduceAdd];(repeat' first|(refine pl_updW (kt:=82) (e:=3) (n:=4) (k:=1) (ag:=false) (ns:=[(x.pa:Int),x.pi,x.qa,x.qi]) (es:=fs) (row:=costD p q x) prW rfl (by push_cast [iO,tN]) (by push_cast [iO,tN]) Tryz.underlying75 rfl rfl rfl hgk hfg rfl ?_;refine pl_of_pops ?_;push_cast [iO,tN])|((first|refine pah 0 ?_|refine pah 1 ?_|refine pah 2 ?_);push_cast [iO,tN])|((first|refine pal 3 ?_|refine pal 4 ?_|refine pal 5 ?_);push_cast [iO,tN])|(refine pad ?_;first|with_reducible exact weak_cutS 15 [24,56,60,61,62,63,79,84] _|(refine weak_fg ?_;push_cast [iO,tN]))|((first|refine pas [6] ?_);push_cast [iO,tN]));done));push_cast [iO,tN])
       (refine retK_of [0,1] ?_;push_cast [iO,tN])
       exact ⟨_,_,leP_refl _,leOs_refl _,_,hmp,rfl,rfl⟩
      | true =>
       rw [han] at hst hcs
       have hC:=ih y fs (by omega) hyo hfs
       obtain ⟨c,hc⟩:∃ c,costV p q y=c:=⟨_,rfl⟩
       rw [hc] at hC hcs hyc
       by_cases hc0:0≤c
       ·rw [if_pos ⟨rfl,hc0⟩] at hcs
        have hL:=glessC_pure b0 (c+1) ⟨hbb.1,by omega⟩ ⟨by omega,by omega⟩
        rw [← hcs] at hL
        repeat' (first|((refine plc [0,1] (hst) ?_ ?_;push_cast [iO,tN,lB0,kB0,rB0,hc0];rintro r os ⟨rfl,rfl⟩;push_cast [iO,tN,lB0,kB0,rB0,hc0]))|((refine plc [0,1] (hC) ?_ ?_;push_cast [iO,tN,lB0,kB0,rB0,hc0];rintro r os ⟨fs,hfs,rfl,rfl⟩;push_cast [iO,tN,lB0,kB0,rB0,hc0]))|((refine plc [3] (hL) ?_ ?_;push_cast [iO,tN,lB0,kB0,rB0,hc0];rintro r os ⟨rfl,rfl⟩;push_cast [iO,tN,lB0,kB0,rB0,hc0]))|(refine hidR 18 ?_)|((first|refine pC ?_|refine pQC ?_|refine pU ?_);push_cast [iO,tN,lB0,kB0,rB0,hc0])|(refine pif (fun h=>?_) (fun h=>?_)<;>first|exact pN h|push_cast [iO,tN,lB0,kB0,rB0,hc0]))
        have hfg:=hfs.good hp.sm hq.sm
        have hmp:=hfs.put hx
        refine unhid ?_
        (refine pwp_cut 15 [24,56,60,61,62,63,79,84] ?_;apply pwp_drawn_to;(focus kernel_rfl);(focus (simp only [List.length_cons,List.length_nil,Nat.reduceAdd];(repeat' first|(refine pl_updW (kt:=82) (e:=3) (n:=4) (k:=1) (ag:=false) (ns:=[(x.pa:Int),x.pi,x.qa,x.qi]) (es:=fs) (row:=costD p q x) prW rfl (by push_cast [iO,tN]) (by push_cast [iO,tN]) Tryz.underlying75 rfl rfl rfl hgk hfg rfl ?_;refine pl_of_pops ?_;push_cast [iO,tN])|((first|refine pah 0 ?_|refine pah 1 ?_|refine pah 2 ?_);push_cast [iO,tN])|((first|refine pal 3 ?_|refine pal 4 ?_|refine pal 5 ?_);push_cast [iO,tN])|(refine pad ?_;first|with_reducible exact weak_cutS 15 [24,56,60,61,62,63,79,84] _|(refine weak_fg ?_;push_cast [iO,tN]))|((first|refine pas [6] ?_);push_cast [iO,tN]));done));push_cast [iO,tN])
        (refine retK_of [0,1] ?_;push_cast [iO,tN])
        exact ⟨_,_,leP_refl _,leOs_refl _,_,hmp,rfl,rfl⟩
       ·rw [if_neg fun h=>hc0 h.2] at hcs
        rw [← hcs]
        repeat' (first|((refine plc [0,1] (hst) ?_ ?_;push_cast [iO,tN,lB0,kB0,rB0,hc0];rintro r os ⟨rfl,rfl⟩;push_cast [iO,tN,lB0,kB0,rB0,hc0]))|((refine plc [0,1] (hC) ?_ ?_;push_cast [iO,tN,lB0,kB0,rB0,hc0];rintro r os ⟨fs,hfs,rfl,rfl⟩;push_cast [iO,tN,lB0,kB0,rB0,hc0]))|(refine hidR 18 ?_)|((first|refine pC ?_|refine pQC ?_|refine pU ?_);push_cast [iO,tN,lB0,kB0,rB0,hc0])|(refine pif (fun h=>?_) (fun h=>?_)<;>first|exact pN h|push_cast [iO,tN,lB0,kB0,rB0,hc0]))
        have hfg:=hfs.good hp.sm hq.sm
        have hmp:=hfs.put hx
        refine unhid ?_
        (refine pwp_cut 15 [24,56,60,61,62,63,79,84] ?_;apply pwp_drawn_to;(focus kernel_rfl);(focus (simp only [List.length_cons,List.length_nil,Nat.reduceAdd];(repeat' first|(refine pl_updW (kt:=82) (e:=3) (n:=4) (k:=1) (ag:=false) (ns:=[(x.pa:Int),x.pi,x.qa,x.qi]) (es:=fs) (row:=costD p q x) prW rfl (by push_cast [iO,tN]) (by push_cast [iO,tN]) Tryz.underlying75 rfl rfl rfl hgk hfg rfl ?_;refine pl_of_pops ?_;push_cast [iO,tN])|((first|refine pah 0 ?_|refine pah 1 ?_|refine pah 2 ?_);push_cast [iO,tN])|((first|refine pal 3 ?_|refine pal 4 ?_|refine pal 5 ?_);push_cast [iO,tN])|(refine pad ?_;first|with_reducible exact weak_cutS 15 [24,56,60,61,62,63,79,84] _|(refine weak_fg ?_;push_cast [iO,tN]))|((first|refine pas [6] ?_);push_cast [iO,tN]));done));push_cast [iO,tN])
        (refine retK_of [0,1] ?_;push_cast [iO,tN])
        exact ⟨_,_,leP_refl _,leOs_refl _,_,hmp,rfl,rfl⟩
  ·have hpi':((x.pi:Int)=(A.length:Int))=False:=eq_false (by omega)
   rw [if_neg fun h=>hpi h.1] at hend
   repeat' (first|((refine plc [0,1] (hsk) ?_ ?_;push_cast [iO,tN,hlp,hlq,hrp,hrq,hpi',ha',hb'];rintro r os ⟨rfl,rfl⟩;push_cast [iO,tN,hlp,hlq,hrp,hrq,hpi',ha',hb']))|((first|refine pC ?_|refine pQC ?_|refine pU ?_);push_cast [iO,tN,hlp,hlq,hrp,hrq,hpi',ha',hb'])|(refine pif (fun h=>?_) (fun h=>?_)<;>first|exact pN h|push_cast [iO,tN,hlp,hlq,hrp,hrq,hpi',ha',hb']))
   (apply pwp_loop3 (α:=Nat × List (MK × List D)) 15 [24,56,60,61,62,63,79,84] (fun z=>[(62,.c (.v (.int .i64 z.1)))]) (fun z=>[(1,.map (some (.wide 4)) false z.2),(3,.box 3 [.v (.int .i64 (bestJ p q x ys z.1))])]) (fun z=>z.1≤ys.length∧MemoOk p q z.2) (fun z=>ys.length - z.1) ((0,es));(focus ((try push_cast [iO,tN]);rfl));(focus exact ⟨by omega,hm⟩);(focus ((refine weak_fg ?_;try push_cast [iO,tN]);(try (exact (hb0.trans hend).symm)))))
   rintro ⟨j,fs⟩ ⟨hj,hfs⟩
   simp only at hj hfs ⊢
   push_cast [iO,tN]
   by_cases hlt:j < ys.length
   ·have hyy:ys.getD j default ∈ ys:=by rw [getD_lt ys hlt];exact List.getElem_mem _
    have hnx:=bestJ_next (p:=p) (q:=q) (x:=x) hlt
    have hbb:=bestJ_bound (p:=p) (q:=q) (x:=x) hyb j (by omega)
    obtain ⟨y,hy⟩:∃ y,ys.getD j default=y:=⟨_,rfl⟩
    rw [hy] at hyy hnx
    obtain ⟨hyo,hyl⟩:=hyk y hyy
    have hyc:=hyb y hyy
    have hC:=ih y fs (by omega) hyo hfs
    have hL:=glessC_pure (bestJ p q x ys j) (costV p q y) ⟨hbb.1,by omega⟩ ⟨hyc.1,by omega⟩
    rw [← hnx] at hL
    obtain ⟨c,hc⟩:∃ c,costV p q y=c:=⟨_,rfl⟩
    rw [hc] at hC hL hyc
    repeat' (first|((refine plc [0,1] (hC) ?_ ?_;push_cast [iO,tN,hy,Pr.d];rintro r os ⟨fs',hf',rfl,rfl⟩;push_cast [iO,tN,hy,Pr.d]))|((refine plc [3] (hL) ?_ ?_;push_cast [iO,tN,hy,Pr.d];rintro r os ⟨rfl,rfl⟩;push_cast [iO,tN,hy,Pr.d]))|((first|refine pC ?_|refine pQC ?_|refine pU ?_);push_cast [iO,tN,hy,Pr.d])|(refine pif (fun h=>?_) (fun h=>?_)<;>first|exact pN h|push_cast [iO,tN,hy,Pr.d]))
    exact ⟨(j+1,fs'),⟨by simp only;omega,hf'⟩,by (refine weak_fg ?_;push_cast [iO,tN]),by simp only;omega⟩
   ·have hjl:j=ys.length:=by omega
    subst hjl
    have hbb:=bestJ_bound (p:=p) (q:=q) (x:=x) hyb ys.length (Nat.le_refl _)
    have hbe:bestJ p q x ys ys.length=ys.foldl (fun b y=>lessV b (costV p q y)) (endV p q x):=by unfold bestJ;rw [List.take_length]
    rw [← hbe] at hcs
    obtain ⟨b0,hb00⟩:∃ b0,bestJ p q x ys ys.length=b0:=⟨_,rfl⟩
    rw [hb00] at hcs hbb ⊢
    have hst:=gstep_pure p q fs x hx hp.ok hq.ok
    cases hsv:stepV p q x with
    | none =>
     have hR:stepR p q x = .three (.agg zeroPr.e) (.agg ((List.replicate 127 false).map boolE)) (.c (.v (.bool false))):=by unfold stepR;rw [hsv]
     rw [hsv] at hcs
     simp only at hcs
     rw [hR] at hst
     rw [← hcs]
     repeat' (first |  ((refine plc [0,1] (hst) ?_ ?_;push_cast [iO,tN];rintro r os ⟨rfl,rfl⟩;push_cast [iO,tN]))|(refine hidR 18 ?_)  | ((first|refine pC ?_|refine pQC ?_|refine pU ?_);push_cast [iO,tN])|(refine pif (fun h=>?_) (fun h=>?_)<;>first|exact pN h|push_cast [iO,tN]))
     have hfg:=hfs.good hp.sm hq.sm
     have hmp:=hfs.put hx
     refine unhid ?_
     (refine pwp_cut 15 [24,56,60,61,62,63,79,84] ?_;apply pwp_drawn_to;(focus kernel_rfl);(focus (simp only [List.length_cons,List.length_nil,Nat.reduceAdd];(repeat' first|(refine pl_updW (kt:=82) (e:=3) (n:=4) (k:=1) (ag:=false) (ns:=[(x.pa:Int),x.pi,x.qa,x.qi]) (es:=fs) (row:=costD p q x) prW rfl (by push_cast [iO,tN]) (by push_cast [iO,tN]) Tryz.underlying75 rfl rfl rfl hgk hfg rfl ?_;refine pl_of_pops ?_;push_cast [iO,tN])|((first|refine pah 0 ?_|refine pah 1 ?_|refine pah 2 ?_);push_cast [iO,tN])|((first|refine pal 3 ?_|refine pal 4 ?_|refine pal 5 ?_);push_cast [iO,tN])|(refine pad ?_;first|with_reducible exact weak_cutS 15 [24,56,60,61,62,63,79,84] _|(refine weak_fg ?_;push_cast [iO,tN]))|((first|refine pas [6] ?_);push_cast [iO,tN]));done));push_cast [iO,tN])
     (refine retK_of [0,1] ?_;push_cast [iO,tN])
     exact ⟨_,_,leP_refl _,leOs_refl _,_,hmp,rfl,rfl⟩
    | some st =>
     obtain ⟨y,s⟩:=st
     have hR:stepR p q x = .three (.agg y.e) (.agg (s.map boolE)) (.c (.v (.bool (anyB s)))):=by unfold stepR;rw [hsv]
     have hsl:=stepV_len hsv
     obtain ⟨hyo,hyl⟩:=stepV_ok hx hsv
     have hyc:=costV_few hyo hp.sm hq.sm
     rw [hsv] at hcs
     simp only at hcs
     rw [hR] at hst
     obtain ⟨B0,hB0⟩:∃ B0,s.map boolE=B0:=⟨_,rfl⟩
     have lB0:B0.length=127:=by rw [← hB0,List.length_map];exact hsl
     have kB0:∀ n,B0.all (keyOk n)=true:=fun n=>by rw [← hB0,List.all_map];exact List.all_eq_true.2 fun _ _=>rfl
     have rB0:∀ r,B0.map (E.ren r)=B0:=fun r=>by rw [← hB0,List.map_map];rfl
     rw [hB0] at hst
     cases han:anyB s with
     | false =>
      rw [han] at hst
      rw [if_neg (by rw [han];rintro ⟨h,_⟩;cases h)] at hcs
      rw [← hcs]
      repeat' (first|((refine plc [0,1] (hst) ?_ ?_;push_cast [iO,tN,lB0,kB0,rB0];rintro r os ⟨rfl,rfl⟩;push_cast [iO,tN,lB0,kB0,rB0]))|(refine hidR 18 ?_)|((first|refine pC ?_|refine pQC ?_|refine pU ?_);push_cast [iO,tN,lB0,kB0,rB0])|(refine pif (fun h=>?_) (fun h=>?_)<;>first|exact pN h|push_cast [iO,tN,lB0,kB0,rB0]))
      have hfg:=hfs.good hp.sm hq.sm
      have hmp:=hfs.put hx
      refine unhid ?_
      (refine pwp_cut 15 [24,56,60,61,62,63,79,84] ?_;apply pwp_drawn_to;(focus kernel_rfl);(focus (simp only [List.length_cons,List.length_nil,Nat.reduceAdd];(repeat' first|(refine pl_updW (kt:=82) (e:=3) (n:=4) (k:=1) (ag:=false) (ns:=[(x.pa:Int),x.pi,x.qa,x.qi]) (es:=fs) (row:=costD p q x) prW rfl (by push_cast [iO,tN]) (by push_cast [iO,tN]) Tryz.underlying75 rfl rfl rfl hgk hfg rfl ?_;refine pl_of_pops ?_;push_cast [iO,tN])|((first|refine pah 0 ?_|refine pah 1 ?_|refine pah 2 ?_);push_cast [iO,tN])|((first|refine pal 3 ?_|refine pal 4 ?_|refine pal 5 ?_);push_cast [iO,tN])|(refine pad ?_;first|with_reducible exact weak_cutS 15 [24,56,60,61,62,63,79,84] _|(refine weak_fg ?_;push_cast [iO,tN]))|((first|refine pas [6] ?_);push_cast [iO,tN]));done));push_cast [iO,tN])
      (refine retK_of [0,1] ?_;push_cast [iO,tN])
      exact ⟨_,_,leP_refl _,leOs_refl _,_,hmp,rfl,rfl⟩
     | true =>
      rw [han] at hst hcs
      have hC:=ih y fs (by omega) hyo hfs
      obtain ⟨c,hc⟩:∃ c,costV p q y=c:=⟨_,rfl⟩
      rw [hc] at hC hcs hyc
      by_cases hc0:0≤c
      ·rw [if_pos ⟨rfl,hc0⟩] at hcs
       have hL:=glessC_pure b0 (c+1) ⟨hbb.1,by omega⟩ ⟨by omega,by omega⟩
       rw [← hcs] at hL
       repeat' (first|((refine plc [0,1] (hst) ?_ ?_;push_cast [iO,tN,lB0,kB0,rB0,hc0];rintro r os ⟨rfl,rfl⟩;push_cast [iO,tN,lB0,kB0,rB0,hc0]))|((refine plc [0,1] (hC) ?_ ?_;push_cast [iO,tN,lB0,kB0,rB0,hc0];rintro r os ⟨fs,hfs,rfl,rfl⟩;push_cast [iO,tN,lB0,kB0,rB0,hc0]))|((refine plc [3] (hL) ?_ ?_;push_cast [iO,tN,lB0,kB0,rB0,hc0];rintro r os ⟨rfl,rfl⟩;push_cast [iO,tN,lB0,kB0,rB0,hc0]))|(refine hidR 18 ?_)|((first|refine pC ?_|refine pQC ?_|refine pU ?_);push_cast [iO,tN,lB0,kB0,rB0,hc0])|(refine pif (fun h=>?_) (fun h=>?_)<;>first|exact pN h|push_cast [iO,tN,lB0,kB0,rB0,hc0]))
       have hfg:=hfs.good hp.sm hq.sm
       have hmp:=hfs.put hx
       refine unhid ?_
       (refine pwp_cut 15 [24,56,60,61,62,63,79,84] ?_;apply pwp_drawn_to;(focus kernel_rfl);(focus (simp only [List.length_cons,List.length_nil,Nat.reduceAdd];(repeat' first|(refine pl_updW (kt:=82) (e:=3) (n:=4) (k:=1) (ag:=false) (ns:=[(x.pa:Int),x.pi,x.qa,x.qi]) (es:=fs) (row:=costD p q x) prW rfl (by push_cast [iO,tN]) (by push_cast [iO,tN]) Tryz.underlying75 rfl rfl rfl hgk hfg rfl ?_;refine pl_of_pops ?_;push_cast [iO,tN])|((first|refine pah 0 ?_|refine pah 1 ?_|refine pah 2 ?_);push_cast [iO,tN])|((first|refine pal 3 ?_|refine pal 4 ?_|refine pal 5 ?_);push_cast [iO,tN])|(refine pad ?_;first|with_reducible exact weak_cutS 15 [24,56,60,61,62,63,79,84] _|(refine weak_fg ?_;push_cast [iO,tN]))|((first|refine pas [6] ?_);push_cast [iO,tN]));done));push_cast [iO,tN])
       (refine retK_of [0,1] ?_;push_cast [iO,tN])
       exact ⟨_,_,leP_refl _,leOs_refl _,_,hmp,rfl,rfl⟩
      ·rw [if_neg fun h=>hc0 h.2] at hcs
       rw [← hcs]
       repeat' (first|((refine plc [0,1] (hst) ?_ ?_;push_cast [iO,tN,lB0,kB0,rB0,hc0];rintro r os ⟨rfl,rfl⟩;push_cast [iO,tN,lB0,kB0,rB0,hc0]))|((refine plc [0,1] (hC) ?_ ?_;push_cast [iO,tN,lB0,kB0,rB0,hc0];rintro r os ⟨fs,hfs,rfl,rfl⟩;push_cast [iO,tN,lB0,kB0,rB0,hc0]))|(refine hidR 18 ?_)|((first|refine pC ?_|refine pQC ?_|refine pU ?_);push_cast [iO,tN,lB0,kB0,rB0,hc0])|(refine pif (fun h=>?_) (fun h=>?_)<;>first|exact pN h|push_cast [iO,tN,lB0,kB0,rB0,hc0]))
       have hfg:=hfs.good hp.sm hq.sm
       have hmp:=hfs.put hx
       refine unhid ?_
       (refine pwp_cut 15 [24,56,60,61,62,63,79,84] ?_;apply pwp_drawn_to;(focus kernel_rfl);(focus (simp only [List.length_cons,List.length_nil,Nat.reduceAdd];(repeat' first|(refine pl_updW (kt:=82) (e:=3) (n:=4) (k:=1) (ag:=false) (ns:=[(x.pa:Int),x.pi,x.qa,x.qi]) (es:=fs) (row:=costD p q x) prW rfl (by push_cast [iO,tN]) (by push_cast [iO,tN]) Tryz.underlying75 rfl rfl rfl hgk hfg rfl ?_;refine pl_of_pops ?_;push_cast [iO,tN])|((first|refine pah 0 ?_|refine pah 1 ?_|refine pah 2 ?_);push_cast [iO,tN])|((first|refine pal 3 ?_|refine pal 4 ?_|refine pal 5 ?_);push_cast [iO,tN])|(refine pad ?_;first|with_reducible exact weak_cutS 15 [24,56,60,61,62,63,79,84] _|(refine weak_fg ?_;push_cast [iO,tN]))|((first|refine pas [6] ?_);push_cast [iO,tN]));done));push_cast [iO,tN])
       (refine retK_of [0,1] ?_;push_cast [iO,tN])
       exact ⟨_,_,leP_refl _,leOs_refl _,_,hmp,rfl,rfl⟩
 ·(refine pwp_cut 15 [24,56,60,61,62,63,79,84] ?_;apply pwp_drawn_to;(focus kernel_rfl);(focus (simp only [List.length_cons,List.length_nil,Nat.reduceAdd];(repeat' first|(refine pl_lookW (kt:=82) (e:=3) (n:=4) (k:=1) (ag:=false) (ns:=[(x.pa:Int),x.pi,x.qa,x.qi]) (es:=es) (z:=.c (.v (.int .i64 ((0:Int))))) (q:=.two (.c (.v (.int .i64 (costV p q x)))) (.c (.v (.bool true)))) prW rfl (by push_cast [iO,tN]) (by push_cast [iO,tN]) Tryz.underlying75 rfl rfl rfl hgk hes (by kernel_rfl) (by rw [show MK.t [(x.pa:Int),x.pi,x.qa,x.qi]=x.k from rfl,hg];rfl) ?_;refine pl_of_pops ?_;push_cast [iO,tN])|((first|refine pah 0 ?_|refine pah 1 ?_|refine pah 2 ?_|refine pah 6 ?_|refine pah 7 ?_|refine pah 8 ?_|refine pah 9 ?_|refine pah 10 ?_);push_cast [iO,tN])|((first|refine pal 3 ?_|refine pal 4 ?_);push_cast [iO,tN])|(refine pad ?_;first|with_reducible exact weak_cutS 15 [24,56,60,61,62,63,79,84] _|(refine weak_fg ?_;push_cast [iO,tN]))|((first|refine pas [5] ?_);push_cast [iO,tN]));done));push_cast [iO,tN])
  repeat' (first|((first|refine pC ?_|refine pQC ?_|refine pU ?_);push_cast [iO,tN])|(refine pif (fun h=>?_) (fun h=>?_)<;>first|exact pN h|push_cast [iO,tN]))
  (refine retK_of [0,1] ?_;push_cast [iO,tN])
  exact ⟨_,_,leP_refl _,leOs_refl _,es,hm,rfl,rfl⟩
end Go.Proofs.YthhfpcbpiphfiaaGreatDoor
