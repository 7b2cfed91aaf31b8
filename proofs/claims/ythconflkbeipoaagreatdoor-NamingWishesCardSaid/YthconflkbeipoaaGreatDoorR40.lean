/- What the program computes, and the plain laws of it, part 40. -/
import Derived.Test.YthconflkbeipoaaGreatDoorR39
namespace Go.Proofs.YthconflkbeipoaaGreatDoor
attribute [local irreducible] PL QL PWPr PCalls Weak RetK Kontr PA
open Go.RowKit
open IntWalk renaming iteOmega → iO, toNatUp → tN
set_option linter.unusedVariables false
set_option linter.unusedSimpArgs false
set_option maxRecDepth 20000
def tgE (names:List Atr):List (MK × List D):=names.map fun a=>(.s a.name,[.v (.string a.value)])
theorem mget_tg (n:ByteArray):∀ names:List Atr,mget (tgE names) (.s n)=(valOf names n).map fun v=>[.v (.string v)]
 | []=>rfl
 | a :: l=>by
  have ih:=mget_tg n l
  unfold valOf at ih ⊢
  simp only [tgE,List.map_cons,mget,MK.s.injEq,List.find?_cons] at ih ⊢
  by_cases h:a.name=n
  ·rw [if_pos h,decide_eq_true h];rfl
  ·rw [if_neg h,decide_eq_false h];exact ih
theorem mput_tg {n v:ByteArray}:∀ {names:List Atr},n ∉ keys names → mput (tgE names) (.s n) [.v (.string v)]=tgE (names++[⟨n,v⟩])
 | [],_=>rfl
 | a :: l,h=>by
  simp only [keys,List.map_cons,List.mem_cons,not_or] at h
  have ih:=mput_tg (n:=n) (v:=v) (names:=l) h.2
  simp only [tgE,List.map_cons,List.cons_append,mput,MK.s.injEq] at ih ⊢
  rw [if_neg (fun e=>h.1 e.symm),ih]
def delS:List ByteArray → ByteArray → List ByteArray
 | [],_=>[]
 | a :: l,s=>if a=s then l else a :: delS l s
theorem mdel_set (s:ByteArray):∀ l:List ByteArray,mdel (setE l) (.s s)=setE (delS l s)
 | []=>rfl
 | a :: l=>by
  have ih:=mdel_set s l
  simp only [setE,List.map_cons,mdel,delS,MK.s.injEq] at ih ⊢
  by_cases h:a=s
  ·rw [if_pos h,if_pos h]
  ·rw [if_neg h,if_neg h,ih];rfl
theorem mem_delS {s x:ByteArray}:∀ {l:List ByteArray},l.Nodup → (x ∈ delS l s ↔ x ∈ l∧x≠s)
 | [],_=>by simp [delS]
 | a :: l,h=>by
  obtain ⟨h1,h2⟩:=List.nodup_cons.1 h
  have ih:=mem_delS (s:=s) (x:=x) h2
  rw [delS]
  by_cases e:a=s
  ·subst e
   rw [if_pos rfl,List.mem_cons]
   constructor
   ·exact fun hx=>⟨.inr hx,fun e=>by subst e;exact h1 hx⟩
   ·rintro ⟨rfl|hx,hne⟩
    ·exact absurd rfl hne
    ·exact hx
  ·rw [if_neg e,List.mem_cons,List.mem_cons,ih]
   constructor
   ·rintro (rfl|⟨hx,hne⟩)
    ·exact ⟨.inl rfl,e⟩
    ·exact ⟨.inr hx,hne⟩
   ·rintro ⟨rfl|hx,hne⟩
    ·exact .inl rfl
    ·exact .inr ⟨hx,hne⟩
theorem nodup_delS {s:ByteArray}:∀ {l:List ByteArray},l.Nodup → (delS l s).Nodup
 | [],_=>List.nodup_nil
 | a :: l,h=>by
  obtain ⟨h1,h2⟩:=List.nodup_cons.1 h
  rw [delS]
  split
  ·exact h2
  ·exact List.nodup_cons.2 ⟨fun hm=>h1 ((mem_delS h2).1 hm).1,nodup_delS h2⟩
structure TakOk (now:List Atr) (tk:List ByteArray):Prop where
 nd:tk.Nodup
 mem:∀ s,s ∈ tk ↔ s ∈ vals now
theorem TakOk.inm {now:List Atr} {tk:List ByteArray} (h:TakOk now tk) (s:ByteArray):inM s tk=inM s (vals now):=by
 cases h1:inM s (vals now) with
 | true=>exact inM_iff.2 ((h.mem s).2 (inM_iff.1 h1))
 | false=>exact inM_false.2 fun hc=>inM_false.1 h1 ((h.mem s).1 hc)
theorem TakOk.ren {now:List Atr} {tk:List ByteArray} (h:TakOk now tk) (hv:(vals now).Nodup) {i:Nat} (hi:i < now.length) (u:ByteArray):TakOk (renP now i u) (addS (delS tk (now.getD i default).value) u):=by
 refine ⟨nodup_addS (nodup_delS h.nd),fun s=>?_⟩
 rw [mem_addS,mem_delS h.nd,h.mem,vals_renP]
 have hil:i < (vals now).length:=by unfold vals;rw [List.length_map];exact hi
 have hgi:(vals now)[i]=(now.getD i default).value:=by simp only [vals,List.getElem_map];rw [getD_lt now hi]
 constructor
 ·rintro (⟨h1,h2⟩|rfl)
  ·obtain ⟨j,hj,rfl⟩:=List.getElem_of_mem h1
   have hne:i≠j:=fun e=>by subst e;exact h2 hgi
   have:=List.getElem_mem (l:=(vals now).set i u) (n:=j) (by rw [List.length_set];exact hj)
   rwa [List.getElem_set_ne hne] at this
  ·exact List.mem_set hil s
 ·intro hs
  obtain ⟨j,hj,rfl⟩:=List.getElem_of_mem hs
  rw [List.length_set] at hj
  rw [List.getElem_set]
  split
  ·exact .inr rfl
  ·rename_i hne
   refine .inl ⟨List.getElem_mem _,fun e=>?_⟩
   rw [← hgi] at e
   exact hne ((List.getElem_inj hv).1 e).symm
abbrev plO (names now:List Atr) (tk:List ByteArray):List Ob:=[.box 85 [.own 1 now.length,.mp 2,.mp 3],.arr 33 2 (now.map Atr.d),.map none false (tgE names),.map none false (setE tk)]
theorem lk_tg (names:List Atr) (n:ByteArray):lkP false (.c (.v (.string ⟨#[]⟩))) true (mget (tgE names) (.s n))=some (.two (.c (.v (.string ((valOf names n).getD ⟨#[]⟩)))) (.c (.v (.bool (valOf names n).isSome)))):=by
 rw [mget_tg]
 cases valOf names n<;>rfl
theorem lk_tg0 (names:List Atr) (n:ByteArray):lkP false (.c (.v (.string ⟨#[]⟩))) false (mget (tgE names) (.s n))=some (.c (.v (.string ((valOf names n).getD ⟨#[]⟩)))):=by
 rw [mget_tg]
 cases valOf names n<;>rfl
theorem wrong_pure (names now:List Atr) (tk:List ByteArray) (a:Atr):PCalls Tryz.prog 82 [.c (.ptr 0 0),.agg (a.d.map D.e)] (plO names now tk) fun r os=>r = .c (.v (.bool (wrongP names a)))∧os=plO names now tk:=by
 have hl:=lk_tg names a.name
 have hw:wrongP names a=match valOf names a.name with|some v=>!decide (v=a.value)|none=>false:=rfl
 cases hv:valOf names a.name with
 | none =>
  rw [hv] at hl hw
  simp only [Option.getD_none,Option.isSome_none] at hl
  simp only at hw
  refine pcalls_of Tryz.func82 rfl (by simp [Tryz.ntmps82]) ?_
  rw [Tryz.ntmps82,Tryz.results82]
  push_cast [iO,tN]
  repeat' (first|((first|refine pG ?_|refine pQ ?_|refine pU ?_);push_cast [iO,tN,hl])|(refine pif (fun h=>?_) (fun h=>?_)<;>first|exact pN h|push_cast [iO,tN,hl]))
  (refine retK_of [0,1,2,3] ?_;push_cast [iO,tN,hw])
 | some v =>
  rw [hv] at hl hw
  simp only [Option.getD_some,Option.isSome_some] at hl
  replace hw:wrongP names a=decide (v≠a.value):=by rw [hw];exact decide_not.symm
  refine pcalls_of Tryz.func82 rfl (by simp [Tryz.ntmps82]) ?_
  rw [Tryz.ntmps82,Tryz.results82]
  push_cast [iO,tN]
  repeat' (first|((first|refine pG ?_|refine pQ ?_|refine pU ?_);push_cast [iO,tN,hl])|(refine pif (fun h=>?_) (fun h=>?_)<;>first|exact pN h|push_cast [iO,tN,hl]))
  (refine retK_of [0,1,2,3] ?_;push_cast [iO,tN,hw])
set_option maxHeartbeats 4000000 in
theorem rename_pure (names now:List Atr) (tk:List ByteArray) (i:Nat) (u:ByteArray) (hi:i < now.length) (hn:now.length≤1000000) :
  PCalls Tryz.prog 83 [.c (.ptr 0 0),.c (.v (.int .i64 i)),.c (.v (.string u))] (plO names now tk) fun r os=>r = .agg (Ren.e ⟨(now.getD i default).name,(now.getD i default).value,u⟩)∧os=plO names (renP now i u) (addS (delS tk (now.getD i default).value) u):=by
 obtain ⟨a,ha⟩:∃ a,now.getD i default=a:=⟨_,rfl⟩
 rw [ha]
 have hdl:=mdel_set a.value tk
 have hmp:=mput_set u (delS tk a.value)
 have hX:(now.map Atr.d).set i [.v (.string (now.getD i default).name),.v (.string u)]=(renP now i u).map Atr.d:=by unfold renP;rw [List.map_set];rfl
 have hrl:=len_renP now i u
 refine pcalls_of Tryz.func83 rfl (by simp [Tryz.ntmps83]) ?_
 rw [Tryz.ntmps83,Tryz.results83]
 push_cast [iO,tN]
 have cB:CutB 8 []:=trivial
 repeat' (first|(refine hidR 1 ?_)|((first|refine pC ?_|refine pQC ?_|refine pU ?_);push_cast [iO,tN,ha])|(refine pif (fun h=>?_) (fun h=>?_)<;>first|exact pN h|push_cast [iO,tN,ha]))
 refine unhid ?_
 (refine pwp_cut 8 [] ?_;refine pwp_drawn (by kernel_rfl) ?_;simp only [List.length_cons,List.length_nil,Nat.reduceAdd];refine pah 0 ?_;push_cast [iO,tN,  ha];refine pah 1 ?_;push_cast [iO,tN,  ha];refine pah 2 ?_;push_cast [iO,tN,  ha];refine pah 4 ?_;push_cast [iO,tN,  ha];refine pah 8 ?_;push_cast [iO,tN,  ha];refine pah 9 ?_;push_cast [iO,tN,  ha];refine pah 10 ?_;push_cast [iO,tN,  ha];refine pah 12 ?_;push_cast [iO,tN,  ha];refine pah 16 ?_;push_cast [iO,tN,  ha];apply pa_hav;intro z18;apply pa_hav;intro z17;apply pa_hav;intro z14;apply pa_hav;intro z15;apply pa_hav;intro z16;apply pa_hav;intro z9;apply pa_hav;intro z11;apply pa_hav;intro z12;apply pa_hav;intro z5;apply pa_hav;intro z10;apply pa_hav;intro z13;apply pa_hav;intro z4;apply pa_hav;intro z6;apply pa_hav;intro z7;apply pa_hav;intro z8;apply pa_hav;intro z1;apply pa_hav;intro z2;apply pa_hav;intro z3;refine pas [3,11,18] ?_;push_cast [iO,tN,  ha];refine ⟨?_,?_,?_⟩;(focus (refine pah 5 ?_;push_cast [iO,tN,  ha];refine pah 6 ?_;push_cast [iO,tN,  ha];exact z1));(focus (refine pah 13 ?_;push_cast [iO,tN,  ha];refine pah 14 ?_;push_cast [iO,tN,  ha];exact z2));(focus (exact z3));refine pas [3,11] ?_;push_cast [iO,tN,  ha];refine ⟨?_,?_⟩;(focus (refine pah 5 ?_;push_cast [iO,tN,  ha];refine pah 6 ?_;push_cast [iO,tN,  ha];exact z6));(focus (refine pah 13 ?_;push_cast [iO,tN,  ha];refine pah 14 ?_;push_cast [iO,tN,  ha];exact z8));refine pas [3,15,18] ?_;push_cast [iO,tN,  ha];refine ⟨?_,?_,?_⟩;(focus (refine pah 5 ?_;push_cast [iO,tN,  ha];refine pah 6 ?_;push_cast [iO,tN,  ha];exact z5));(focus (exact z7));(focus (refine paw z8 ?_;refine weak_fg ?_;push_cast [iO,tN,  ha]));refine pas [7,11,18] ?_;push_cast [iO,tN,  ha];refine ⟨?_,?_,?_⟩;(focus (exact z4));(focus (refine pah 13 ?_;push_cast [iO,tN,  ha];refine pah 14 ?_;push_cast [iO,tN,  ha];refine paw z5 ?_;refine weak_fg ?_;push_cast [iO,tN,  ha]));(focus (refine paw z6 ?_;refine weak_fg ?_;push_cast [iO,tN,  ha]));refine pas [3,15] ?_;push_cast [iO,tN,  ha];refine ⟨?_,?_⟩;(focus (refine pah 5 ?_;push_cast [iO,tN,  ha];refine pah 6 ?_;push_cast [iO,tN,  ha];exact z12));(focus (exact z13));refine pas [3,18] ?_;push_cast [iO,tN,  ha];refine ⟨?_,?_⟩;(focus (refine pah 5 ?_;push_cast [iO,tN,  ha];refine pah 6 ?_;push_cast [iO,tN,  ha];exact z11));(focus (refine paw z13 ?_;refine weak_fg ?_;push_cast [iO,tN,  ha]));refine pas [7,11] ?_;push_cast [iO,tN,  ha];refine ⟨?_,?_⟩;(focus (exact z10));(focus (refine pah 13 ?_;push_cast [iO,tN,  ha];refine pah 14 ?_;push_cast [iO,tN,  ha];refine paw z12 ?_;refine weak_fg ?_;push_cast [iO,tN,  ha]));refine pas [11,18] ?_;push_cast [iO,tN,  ha];refine ⟨?_,?_⟩;(focus (refine pah 13 ?_;push_cast [iO,tN,  ha];refine pah 14 ?_;push_cast [iO,tN,  ha];exact z9));(focus (refine paw z10 ?_;refine weak_fg ?_;push_cast [iO,tN,  ha]));refine pas [3] ?_;push_cast [iO,tN,  ha];(focus (refine pah 5 ?_;push_cast [iO,tN,  ha];refine pah 6 ?_;push_cast [iO,tN,  ha];exact z16));refine pas [11] ?_;push_cast [iO,tN,  ha];(focus (refine pah 13 ?_;push_cast [iO,tN,  ha];refine pah 14 ?_;push_cast [iO,tN,  ha];exact z15));refine pas [7,15,18] ?_;push_cast [iO,tN,  ha];refine ⟨paw z9 ?_,paw z11 ?_,paw z12 ?_⟩<;>(refine weak_fg ?_;push_cast [iO,tN,  ha]);refine pas [7,15] ?_;push_cast [iO,tN,  ha];refine ⟨paw z15 ?_,paw z16 ?_⟩<;>(refine weak_fg ?_;push_cast [iO,tN,  ha]);refine pas [7,18] ?_;push_cast [iO,tN,  ha];refine ⟨?_,?_⟩;(focus (refine pah 17 ?_;push_cast [iO,tN,  ha];exact z14));(focus (refine paw z16 ?_;refine weak_fg ?_;push_cast [iO,tN,  ha]));refine pas [15,18] ?_;push_cast [iO,tN,  ha];refine ⟨?_,?_⟩;(focus (refine pah 17 ?_;push_cast [iO,tN,  ha];refine paw z14 ?_;refine weak_fg ?_;push_cast [iO,tN,  ha]));(focus (refine paw z15 ?_;refine weak_fg ?_;push_cast [iO,tN,  ha]));refine pas [7] ?_;push_cast [iO,tN,  ha];(focus (refine pah 17 ?_;push_cast [iO,tN,  ha];exact z17));refine pas [15] ?_;push_cast [iO,tN,  ha];(focus (refine pah 17 ?_;push_cast [iO,tN,  ha];refine paw z17 ?_;refine weak_fg ?_;push_cast [iO,tN,  ha]));refine pas [18] ?_;push_cast [iO,tN,  ha];refine paw z17 ?_<;>(refine weak_fg ?_;push_cast [iO,tN,  ha]);refine pas [19] ?_;push_cast [iO,tN,  ha];refine paw z18 (weak_cutS 8 [] _);push_cast [iO,tN,  ha];refine pad ?_;push_cast [iO,tN,  ha])
 repeat' (first|((refine pwp_cut 8 [] ?_;apply pwp_drawn_to;(focus kernel_rfl);(focus (simp only [List.length_cons,List.length_nil,Nat.reduceAdd];(repeat' first|((first|refine pah 0 ?_|refine pah 1 ?_|refine pah 2 ?_|refine pah 4 ?_);push_cast [iO,tN,  hdl])|(refine pad ?_;first|with_reducible exact weak_cutS 8 [] _|(refine weak_fg ?_;push_cast [iO,tN,  hdl]))|((first|refine pas [3] ?_|refine pas [5] ?_|refine pas [6] ?_);push_cast [iO,tN,  hdl])|((first|refine pas [3,5] ?_);push_cast [iO,tN,  hdl];refine ⟨?_,?_⟩));done));push_cast [iO,tN,  hdl]))|((first|refine pC ?_|refine pQC ?_|refine pU ?_);push_cast [iO,tN,ha,hdl,hmp])|(refine pif (fun h=>?_) (fun h=>?_)<;>first|exact pN h|push_cast [iO,tN,ha,hdl,hmp]))
 (refine retK_of [0,1,2,3] ?_;push_cast [iO,tN,hX,hrl])
end Go.Proofs.YthconflkbeipoaaGreatDoor
namespace Go.Proofs.YthconflkbeipoaaGreatDoor
open Go.RowKit
open IntWalk renaming iteOmega → iO, toNatUp → tN
set_option linter.unusedVariables false
set_option linter.unusedSimpArgs false
theorem pwp_maprange0 {rd:Option Nat} {P:Program} {N p:Nat} {Q:Exit → S → Prop} {s:S} {α:Type} {pre:List Oper} {rng nx fl en ex asg:Oper} {ops8:List Oper} {r5 r6 r7 r8 b2 b3 it tb t19 te tv v m:Nat} {kk:Option IntKind} {es:List (MK × List D)} {tm tk tel:TypeId} {xo:Operand}
  (x0:α) (Φ:α → List (MK × List D) → Prop) (St:α → S)
  (hM:MrOps N it tb t19 te tv v nx fl en ex asg) (hpl:plains (pre++[rng])=true) (hpl6:plains [nx,fl]=true) (hpl7:plains [en,ex,asg]=true) (hpl8:plains ops8=true) (hty:P.underlying tm=some (.map tk tel))
  (hr:rng.op = .range tm xo∧rng.guard=none∧rng.dst=some it)
  (hpre:rgo P N (pre++[rng]).toArray pre s fun s'=>s'.ev xo=some (.c (.mp m))∧s'.o[m]? = some (.map kk false es)∧Forgets s' (St x0))
  (hfr:∀ x,freshAt (St x) it tb t19 te tv) (hk8:∀ o ∈ ops8,o.dst≠some it) (ho:∀ x,(St x).o=s.o) (h0:Φ x0 [])
  (round:∀ x done e d,Φ x done → e ∈ es → e.2=[d] → rgo P N ops8.toArray ops8 ((St x).put (some v) (.c d.e)) fun s'=>∃ x',Φ x' (e :: done)∧Forgets s' (St x'))
  (fin:∀ x done,(∀ e ∈ es,e ∈ done) → Φ x done → Q .normal (St x)) :
  PWPr rd P N p (.seq (.region r5 (pre++[rng]).toArray false) (.block b2 (mrLoop b2 b3 r6 r7 r8 t19 nx fl en ex asg ops8))) Q s:=by
 intro z Γ a w hA hD
 refine wpIn_seq (wpIn_region_lit (list_rd hpl ?_))
 refine rgo_ok hpre hA (Same.refl w) fun s1 a1 ⟨hev,hob,hfo⟩ hA1 hd1 _=>?_
 obtain ⟨hcap,ms,clock,hblk,hRM⟩:=hA1.inv.m.ob m _ hob
 have hxe:a1.eval xo = .map (some (Γ.β m)):=by
  have:=(S.ev_ok hev hA1.inv)
  exact this.2
 have hlt:Γ.β m < w.heap.size:=(Array.getElem?_eq_some_iff.1 hblk).1
 refine list_one hr.2.1 (run_range_op hr.1 hxe (run_range_map w tm tk tel (Γ.β m) ms clock hty hblk)) ?_
 rw [hr.2.2]
 refine wpIn_block ?_
 have hSt0:Stands N p Γ (St x0) a1 w:=hfo.ok hA1
 obtain ⟨⟨hn1,hn2,hn3⟩,⟨hf1,hf2,hf3⟩,⟨he1,he2,he3⟩,⟨hx1,hx2,hx3⟩,⟨hs1,hs2,hs3⟩,⟨⟨l1,l2⟩,⟨l3,l4⟩,l5,l6⟩,⟨⟨e1,e2⟩,⟨e3,e4⟩,e5⟩⟩:=hM
 have hborn:∀ x ∈ ms.toList,x.born < clock:=fun x hx=>hRM.clock _ (List.mem_map.2 ⟨x,hx,rfl⟩)
 have hnod:(ms.toList.map (·.born)).Nodup:=hRM.born.imp fun h=>by omega
 have hsame:∀ w1:World,w1.heap=w.heap → Ext No w w1 → ∀ o,Ext No w (w1.alloc o):=fun w1 _ h o=>h.alloc o
 have hstand:∀ (x:α) (a':Act) (w2 w3:World),Stands N p Γ (St x) a' w2 → Same w2 w3 → Stands N p Γ (St x) a' w3:=fun x a' w2 w3 h hs=>⟨h.inv.same hs,h.le⟩
 refine wpIn_loop_ghost (fun n a' w'=>∃ (x:α) (done:List (MK × List D)) (seen:Array Nat) (w1:World),w'=w1.alloc (.mapIter (some (Γ.β m)) clock seen clock)∧(w1.heap=w.heap∧Ext No w w1)∧Stands N p Γ (St x) a' w∧a'.eval (.tmp it) = .pointer (some ⟨w.heap.size,0,none⟩)∧a'.defers=a.defers∧Φ x done∧(∀ (i:Nat) (e:MK × List D) (mi:MapEntry),es[i]? = some e → ms.toList[i]? = some mi → seen.contains mi.born=true → e ∈ done)∧n=(leftOf ms seen).size) (leftOf ms #[]).size ?_ ?_
 ·refine ⟨x0,[],#[],w,rfl,⟨rfl,Ext.refl _ w⟩,⟨hSt0.inv.fresh (hfr x0).1.1,hSt0.le⟩,eval_put_self hA1.inv.size l1,(put_defers _ _ _).trans hd1,h0,fun i e mi _ _ h=>by simp at h,rfl⟩
 rintro n a' w' ⟨x,done,seen,w1,rfl,⟨hh1,hx⟩,hSx,hit,hdf,hΦ,hcov,rfl⟩
 have hsz:w1.heap.size=w.heap.size:=by rw [hh1]
 have hblk1:w1.heap[Γ.β m]? = some (.map ms clock):=by rw [hh1];exact hblk
 have htz:a'.tmps.size=N:=hSx.inv.size
 refine wpIn_seq (wpIn_region_lit (list_rd hpl6 ?_))
 rcases next_map (P:=P) w1 nx.type (Γ.β m) clock clock seen ms clock hblk1 hborn (Nat.le_refl _) with ⟨hz0,hrun⟩|⟨e,heL,w2,hw2,hrun⟩
 ·rw [← hsz] at hit
  refine list_one hn2 (run_next_op hn1 hit hrun) ?_
  rw [hn3]
  refine list_one hf2 (run_extract_op hf1 (eval_put_self htz l2) rfl) ?_
  rw [hf3]
  refine wpIn_seq (wpIn_cond (t:=false) (eval_put_self (by rw [act_size];exact htz) l3) (wpIn_exit ?_))
  have hext:Ext No w (w1.alloc (.mapIter (some (Γ.β m)) clock seen clock)):=hx.alloc _
  have hfin:Q .normal (St x):=fin x done (fun e' he'=>by
   obtain ⟨i,hi,rfl⟩:=List.getElem_of_mem he'
   have hg:es[i]? = some es[i]:=List.getElem?_eq_getElem hi
   obtain ⟨mi,hmi,_⟩:=hRM.rows.get i _ hg
   refine hcov i _ mi hg hmi ?_
   cases hc:seen.contains mi.born with
   | true=>rfl
   | false =>
    exfalso
    have hm:mi ∈ (leftOf ms seen).toList:=by
     rw [leftOf_list,List.mem_filter]
     exact ⟨List.mem_of_getElem? hmi,by rw [hc];rfl⟩
    have:(leftOf ms seen).toList=[]:=List.length_eq_zero_iff.1 (by rw [Array.length_toList];exact hz0)
    rw [this] at hm
    cases hm) hΦ
  have hSf:Stands N p Γ (St x) ((a'.put (some tb) (.tuple #[.bool false])).put (some t19) (.bool false)) (w1.alloc (.mapIter (some (Γ.β m)) clock seen clock)):=hstand x _ w _ ⟨(hSx.inv.fresh (hfr x).1.2).fresh (hfr x).2.1.1,hSx.le⟩ (Same.of_ext hext)
  have hg0:Grow p Γ w Γ (w1.alloc (.mapIter (some (Γ.β m)) clock seen clock)):=Grow.of_no hext
  simp only [Exit.inBlock,Exit.then,if_true]
  exact ⟨St x,Γ,hfin,hSf,hg0,hD.grow hg0 (by rw [put_defers,put_defers];exact hdf)⟩
 ·rw [← hsz] at hit
  have hem:e ∈ ms.toList:=by rw [leftOf_list,List.mem_filter] at heL;exact heL.1
  have hh2:w2.heap=w.heap:=by rcases hw2 with rfl|rfl<;>exact hh1
  have hx2':Ext No w w2:=by
   rcases hw2 with rfl|rfl
   ·exact hx
   ·exact hx.drew
  have hsz2:w2.heap.size=w1.heap.size:=by rw [hh2,hh1]
  obtain ⟨i,hi,hie⟩:=List.getElem_of_mem hem
  have hmi:ms.toList[i]? = some e:=by rw [List.getElem?_eq_getElem hi,hie]
  have hil:i < es.length:=by rw [hRM.rows.length];exact hi
  have hgi:es[i]? = some es[i]:=List.getElem?_eq_getElem hil
  obtain ⟨mi,hmi2,hkey,hval⟩:=hRM.rows.get i _ hgi
  rw [hmi] at hmi2
  cases hmi2
  obtain ⟨xs,hxs,hxv⟩:=hval
  simp only at hxv
  subst hxv
  obtain ⟨d,hd2⟩:∃ d,es[i].2=[d]:=by
   have:=hxs.length
   cases h:es[i].2 with
   | nil=>rw [h] at this;simp at this
   | cons d l =>
    rw [h] at this
    simp only [List.length_cons,List.length_nil] at this
    have:l=[]:=List.length_eq_zero_iff.1 (by omega)
    subst this
    exact ⟨d,rfl⟩
  rw [hd2] at hxs
  have hrd:RD w Γ.I d e.val:=by
   obtain ⟨b',m',h1,h2,_⟩:=All2.cons_l.1 hxs
   cases h1
   exact h2
  refine list_one hn2 (run_next_op hn1 hit hrun) ?_
  rw [hn3]
  refine list_one hf2 (run_extract_op hf1 (eval_put_self htz l2) rfl) ?_
  rw [hf3]
  refine wpIn_seq (wpIn_cond (t:=true) (eval_put_self (by rw [act_size];exact htz) l3) (wpIn_skip ?_))
  refine wpIn_block (wpIn_seq (wpIn_region_lit (list_rd hpl7 ?_)))
  have hit2:((a'.put (some tb) (.tuple #[.bool true,e.key,e.val])).put (some t19) (.bool true)).eval (.tmp it) = .pointer (some ⟨w2.heap.size,0,none⟩):=by rw [eval_put_ne (Ne.symm e2),eval_put_ne (Ne.symm e1),hit,hsz2]
  have hblk2:w2.heap[Γ.β m]? = some (.map ms clock):=by rw [hh2];exact hblk
  refine list_one he2 (run_entry_op he1 hit2 (run_entry_map w2 (Γ.β m) clock seen ms clock e hblk2 hem hnod)) ?_
  rw [he3]
  refine list_one hx2 (run_extract_op hx1 (eval_put_self (by rw [act_size,act_size];exact htz) l4) rfl) ?_
  rw [hx3]
  refine list_one hs2 (run_assign_op hs1 (eval_put_self (by rw [act_size,act_size,act_size];exact htz) l5)) ?_
  rw [hs3]
  have hSb:Stands N p Γ ((St x).put (some v) (.c d.e)) (((((a'.put (some tb) (.tuple #[.bool true,e.key,e.val])).put (some t19) (.bool true)).put (some te) (.tuple #[e.key,e.val])).put (some tv) e.val).put (some v) e.val) w :=
   ⟨((((hSx.inv.fresh (hfr x).1.2).fresh (hfr x).2.1.1).fresh (hfr x).2.1.2).fresh (hfr x).2.2).put (dst_lt l6) (show RP w Γ (.c d.e) e.val from RE.of_d hrd),hSx.le⟩
  refine wpIn_region_lit (list_rd hpl8 ?_)
  have hb:=round x done es[i] d hΦ (List.getElem_mem _) hd2
  have hx3':Ext No w (w2.alloc (.mapIter (some (Γ.β m)) clock (seen.push e.born) clock)):=hx2'.alloc _
  have hnow:=rgo_ok (p:=p) (tail:=[]) (Q:=Exit.inBlock b3 (Exit.then (fun a'' w''=>∃ n',n' < (leftOf ms seen).size∧∃ (x:α) (done:List (MK × List D)) (seen:Array Nat) (w1:World),w''=w1.alloc (.mapIter (some (Γ.β m)) clock seen clock)∧(w1.heap=w.heap∧Ext No w w1)∧Stands N p Γ (St x) a'' w∧a''.eval (.tmp it) = .pointer (some ⟨w.heap.size,0,none⟩)∧a''.defers=a.defers∧Φ x done∧(∀ (i:Nat) (e:MK × List D) (mi:MapEntry),es[i]? = some e → ms.toList[i]? = some mi → seen.contains mi.born=true → e ∈ done)∧n'=(leftOf ms seen).size) (Exit.inBlock b2 (Post z N p Q Γ w)))) hb hSb (Same.of_ext hx3') (fun s' a'' ⟨x',hΦ',hfo'⟩ hA' hd' ht'=>?_)
  ·rw [List.append_nil] at hnow
   exact hnow
  ·refine ⟨(leftOf ms (seen.push e.born)).size,leftOf_push heL,x',es[i] :: done,seen.push e.born,w2,rfl,⟨hh2,hx2'⟩,hfo'.ok hA',?_,?_,hΦ',fun j e' mj hj hmj hs=>?_,rfl⟩
   ·rw [ht' it hk8,eval_put_ne (Ne.symm e5),eval_put_ne (Ne.symm e4),eval_put_ne (Ne.symm e3),hit2,hsz2,hsz]
   ·rw [hd',put_defers,put_defers,put_defers,put_defers,put_defers];exact hdf
   ·by_cases hc:seen.contains mj.born=true
    ·exact List.mem_cons_of_mem _ (hcov j e' mj hj hmj hc)
    ·have hb2:mj.born=e.born:=by
      simp only [Array.contains_eq_mem,decide_eq_true_eq,Array.mem_push] at hs hc
      rcases hs with hs|hs
      ·exact absurd hs hc
      ·exact hs
     have hij:j=i:=by
      obtain ⟨hjl,hje⟩:=List.getElem?_eq_some_iff.1 hmj
      have hp:=List.pairwise_iff_getElem.1 hRM.born
      rcases Nat.lt_trichotomy j i with h|h|h
      ·have:=hp j i (by simpa using hjl) (by simpa using hi) h
       simp only [List.getElem_map] at this
       rw [hje,hie] at this
       omega
      ·exact h
      ·have:=hp i j (by simpa using hi) (by simpa using hjl) h
       simp only [List.getElem_map] at this
       rw [hje,hie] at this
       omega
     subst hij
     rw [hgi] at hj
     cases hj
     simp
def fgL (s1:S):List (Nat × PV) → Prop
 | []=>True
 | (i,q) :: t=>s1.get i=some q∧fgL s1 t
theorem fgL_look {s1:S}:∀ {t:List (Nat × PV)} {i:Nat} {q:PV},fgL s1 t → look t i=some q → s1.get i=some q
 | [],i,q,_,h=>by cases h
 | (j,r) :: t,i,q,hf,h=>by
  rw [look] at h
  split at h
  ·rename_i e;subst e;cases h;exact hf.1
  ·exact fgL_look hf.2 h
theorem forgets_of {s1 s2:S} (ho:s2.o=s1.o) (h:fgL s1 s2.t):Forgets s1 s2:=⟨ho,fun _ _ hq=>fgL_look h hq⟩
theorem dsts_ne {l:List Oper} {i:Nat} (h:(l.all fun o=>decide (o.dst≠some i))=true):∀ o ∈ l,o.dst≠some i:=fun o ho=>of_decide_eq_true (List.all_eq_true.1 h o ho)
end Go.Proofs.YthconflkbeipoaaGreatDoor
namespace Go.Proofs.YthconflkbeipoaaGreatDoor
attribute [local irreducible] PL QL PWPr PCalls Weak RetK Kontr PA
open Go.RowKit
open IntWalk renaming iteOmega → iO, toNatUp → tN
set_option linter.unusedVariables false
set_option linter.unusedSimpArgs false
set_option maxRecDepth 20000
set_option maxHeartbeats 8000000 in
theorem temporary_pure (names now:List Atr) (tk:List ByteArray) (ht:TakOk now tk) (hfew:names.length+now.length≤90) :
  PCalls Tryz.prog 84 [.c (.ptr 0 0)] (plO names now tk) fun r os=>r = .c (.v (.string (tempS names now)))∧os=plO names now tk:=by
 have hT:=temp_le (vals names++vals now)
 have hTl:tempN (vals names++vals now)≤91:=by
  have:(vals names++vals now).length=names.length+now.length:=by unfold vals;rw [List.length_append,List.length_map,List.length_map]
  omega
 refine pcalls_of Tryz.func84 rfl (by simp [Tryz.ntmps84]) ?_
 rw [Tryz.ntmps84,Tryz.results84]
 push_cast [iO,tN]
 have cB:CutB 8 []:=trivial
 repeat' (first|((first|refine pC ?_|refine pQC ?_|refine pU ?_);push_cast [iO,tN])|(refine pif (fun h=>?_) (fun h=>?_)<;>first|exact pN h|push_cast [iO,tN]))
 (apply pwp_loop3 (α:=Nat) 8 [] (fun n=>[(3,.c (.v (.int .i64 n)))]) (fun n=>[]) (fun n=>n≤tempN (vals names++vals now)) (fun n=>tempN (vals names++vals now)+1 - n) (0);(focus ((try push_cast [iO,tN]);rfl));(focus exact (Nat.zero_le _));(focus ((refine weak_fg ?_;try push_cast [iO,tN]);(try (skip)))))
 intro n hn
 push_cast [iO,tN]
 have hit:=itoaN_pure n (by omega)
 have hsz:(⟨#[114,101,110,97,109,101]⟩:ByteArray).size=6:=rfl
 have hren:(⟨#[114,101,110,97,109,101]⟩:ByteArray)++digN n=renN n:=rfl
 have hds:(digN n).size≤n+1:=by
  have h:(digN n).size=(Lib.decDigits n).length:=by unfold digN;simp [ByteArray.size]
  rw [h,Lib.decDigits_length]
  clear h hit hren
  induction n using Nat.strongRecOn with
  | ind n ih =>
   by_cases h10:n < 10
   ·rw [Lib.nDigits_small h10];omega
   ·rw [Lib.nDigits_big h10]
    have:=ih (n / 10) (by omega) (by omega)
    omega
 refine pwp_seq fun K0 hK0=>?_
 refine pwp_block ?_
 refine pwp_seq fun K1 hK1=>?_
 refine pC ?_
 push_cast [iO,tN,hsz,hds]
 (refine plc [] (hit) ?_ ?_;push_cast [iO,tN];rintro r os ⟨rfl,rfl⟩;push_cast [iO,tN])
 push_cast [iO,tN,hsz,hds,hren]
 refine pU ?_
 refine pwp_seq fun K2 hK2=>?_
 refine pC ?_
 push_cast [iO,tN]
 refine pU ?_
 refine pwp_seq fun K3 hK3=>?_
 refine pwp_maprange0 (pre:=[_,_,_,_]) (tk:=9) (tel:=9) (m:=2) (kk:=none) (es:=tgE names) false (fun (x:Bool) done=>(x=true ↔ ∃ e ∈ done,e.2=[.v (.string (renN n))])∧∀ e ∈ done,e ∈ tgE names) (fun x=>⟨[(5,.c (.v (.bool x))),(4,.c (.v (.string (renN n)))),(3,.c (.v (.int .i64 n))),(2,.c (.v (.string (⟨#[]⟩)))),(0,.c (.ptr 0 0))],plO names now tk⟩) ⟨⟨rfl,rfl,rfl⟩,⟨rfl,rfl,rfl⟩,⟨rfl,rfl,rfl⟩,⟨rfl,rfl,rfl⟩,⟨rfl,rfl,rfl⟩,by decide,by decide⟩ (by kernel_rfl) (by kernel_rfl) (by kernel_rfl) (by kernel_rfl) (by kernel_rfl) ⟨rfl,rfl,rfl⟩ ?_ ?_ ?_ (fun _=>rfl) (by simp) ?_ ?_
 ·push_cast [iO,tN,rgo,pval]
  refine forgets_of rfl ?_
  push_cast [iO,tN,fgL]
 ·intro x
  push_cast [iO,tN,freshAt]
 ·exact dsts_ne (by kernel_rfl)
 ·rintro x done e d ⟨hx,hdn⟩ he hd
  have hdn2:∀ e' ∈ e :: done,e' ∈ tgE names:=fun e' h'=>by
   rcases List.mem_cons.1 h' with rfl|h'
   ·exact he
   ·exact hdn e' h'
  obtain ⟨a,ha,rfl⟩:=List.mem_map.1 he
  simp only [List.cons.injEq,and_true] at hd
  subst hd
  by_cases h1:x=true
  ·subst h1
   push_cast [iO,tN,rgo,pval,D.e]
   refine ⟨true,⟨⟨fun _=>?_,fun _=>rfl⟩,hdn2⟩,forgets_of rfl (by push_cast [iO,tN,fgL])⟩
   obtain ⟨e,he,h2⟩:=hx.1 rfl
   exact ⟨e,List.mem_cons_of_mem _ he,h2⟩
  ·have h1:x=false:=by cases x<;>simp_all
   subst h1
   have hno:∀ e ∈ done,e.2≠[D.v (.string (renN n))]:=fun e he h2=>by have:=hx.2 ⟨e,he,h2⟩;cases this
   by_cases h2:a.value=renN n
   ·push_cast [iO,tN,rgo,pval,D.e,h2]
    rw [h2] at hdn2
    refine ⟨true,⟨⟨fun _=>⟨_,List.mem_cons_self ..,rfl⟩,fun _=>rfl⟩,hdn2⟩,forgets_of rfl (by push_cast [iO,tN,fgL])⟩
   ·push_cast [iO,tN,rgo,pval,D.e,h2]
    refine ⟨false,⟨⟨(fun h=>by cases h),?_⟩,hdn2⟩,forgets_of rfl (by push_cast [iO,tN,fgL])⟩
    rintro ⟨e,he,h3⟩
    rcases List.mem_cons.1 he with rfl|he
    ·simp at h3;exact absurd h3 h2
    ·exact absurd h3 (hno e he)
 ·rintro x done hall ⟨hx,hdn⟩
  show K3 _
  refine pU ?_
  have hx2:x=inM (renN n) (vals names):=by
   cases h1:inM (renN n) (vals names) with
   | true =>
    rw [hx]
    obtain ⟨a,ha,he⟩:=List.mem_map.1 (inM_iff.1 h1)
    exact ⟨_,hall _ (List.mem_map.2 ⟨a,ha,rfl⟩),by rw [he]⟩
   | false =>
    cases hc:x with
    | false=>rfl
    | true =>
     obtain ⟨e,he,h2⟩:=hx.1 hc
     obtain ⟨a,ha,rfl⟩:=List.mem_map.1 (hdn e he)
     simp only [List.cons.injEq,D.v.injEq,Value.string.injEq,and_true] at h2
     exact absurd (List.mem_map.2 ⟨a,ha,h2⟩) (inM_false.1 h1)
  subst hx2
  have hlk:=lk_set tk (renN n)
  rw [ht.inm] at hlk
  have happ:inM (renN n) (vals names++vals now)=(inM (renN n) (vals names) || inM (renN n) (vals now)):=by
   rw [Bool.eq_iff_iff,inM_iff,List.mem_append,Bool.or_eq_true,inM_iff,inM_iff]
  have hno:=temp_not (vals names++vals now)
  cases h1:inM (renN n) (vals names) with
  | true =>
   rw [h1,Bool.true_or] at happ
   have hne:n≠tempN (vals names++vals now):=fun e=>by rw [← e,happ] at hno;cases hno
   repeat' (first|((first|refine pC ?_|refine pQC ?_|refine pU ?_);push_cast [iO,tN,hlk])|(refine pif (fun h=>?_) (fun h=>?_)<;>first|exact pN h|push_cast [iO,tN,hlk]))
   exact ⟨n+1,by omega,by (refine weak_fg ?_;push_cast [iO,tN]),by omega⟩
  | false =>
   rw [h1,Bool.false_or] at happ
   cases h2:inM (renN n) (vals now) with
   | true =>
    rw [h2] at happ hlk
    have hne:n≠tempN (vals names++vals now):=fun e=>by rw [← e,happ] at hno;cases hno
    repeat' (first|((first|refine pC ?_|refine pQC ?_|refine pU ?_);push_cast [iO,tN,hlk])|(refine pif (fun h=>?_) (fun h=>?_)<;>first|exact pN h|push_cast [iO,tN,hlk]))
    exact ⟨n+1,by omega,by (refine weak_fg ?_;push_cast [iO,tN]),by omega⟩
   | false =>
    rw [h2] at happ hlk
    have he:n=tempN (vals names++vals now):=by
     rcases Nat.lt_or_ge n (tempN (vals names++vals now)) with hl|hl
     ·have:=temp_mid _ hl
      rw [happ] at this;cases this
     ·omega
    have hS:tempS names now=renN n:=by unfold tempS;rw [← he]
    repeat' (first|((first|refine pC ?_|refine pQC ?_|refine pU ?_);push_cast [iO,tN,hlk])|(refine pif (fun h=>?_) (fun h=>?_)<;>first|exact pN h|push_cast [iO,tN,hlk]))
    (refine retK_of [0,1,2,3] ?_;push_cast [iO,tN,hS])
end Go.Proofs.YthconflkbeipoaaGreatDoor
