/- What the program computes, and the plain laws of it, part 39. -/
import Derived.Laws.IdiomRangeMap
import Derived.Test.YthconflkbeipoaaGreatDoorS25
namespace Go.Proofs.YthconflkbeipoaaGreatDoor
open Go.RowKit
open IntWalk renaming iteOmega → iO, toNatUp → tN
set_option linter.unusedVariables false
set_option linter.unusedSimpArgs false
def rgo (P:Program) (N:Nat) (ops:Array Oper):List Oper → S → (S → Prop) → Prop
 | [],s,K=>K s
 | o :: rest,s,K=>match gd ops s o.guard,pval P s o.op with
  | some true,some q=>dstOk N o.dst∧rgo P N ops rest (s.put o.dst q) K
  | some false,_=>dstOk N o.dst∧rgo P N ops rest (s.put o.dst .undef) K
  | _,_=>False
theorem eval_put_ne {a:Act} {d e:Nat} {y:Value} (h:d≠e):(a.put (some d) y).eval (.tmp e)=a.eval (.tmp e):=by
 simp only [Act.put,Act.eval]
 rw [Array.getD_eq_getD_getElem?,Array.getD_eq_getD_getElem?,Array.getElem?_setIfInBounds_ne h]
theorem put_other {a:Act} {d:Option Nat} {i:Nat} {y:Value} (h:d≠some i):(a.put d y).eval (.tmp i)=a.eval (.tmp i):=by
 cases d with
 | none=>rfl
 | some d=>exact eval_put_ne fun e=>h (by rw [e])
def keepsT (l:List Oper) (a a':Act):Prop:=∀ i,(∀ o ∈ l,o.dst≠some i) → a'.eval (.tmp i)=a.eval (.tmp i)
theorem rgo_ok {P:Program} {N p:Nat} {ops:Array Oper} {Q:Exit → Act → World → Prop} {tail:List Oper}:∀ {l:List Oper} {s:S} {K:S → Prop} {Γ:G} {a:Act} {w w':World},rgo P N ops l s K → Stands N p Γ s a w → Same w w' → (∀ s' a',K s' → Stands N p Γ s' a' w → a'.defers=a.defers → keepsT l a a' → wpListIn (Fw none) 0 P ops Q tail a' w') → wpListIn (Fw none) 0 P ops Q (l++tail) a w'
 | [],s,K,Γ,a,w,w',h,hA,_,hK=>hK s a h hA rfl fun _ _=>rfl
 | o :: rest,s,K,Γ,a,w,w',h,hA,hw,hK=>by
  rw [rgo] at h
  split at h
  ·rename_i q hg hv
   obtain ⟨y,h1,h2⟩:=pval_ok hv hA.inv
   rw [List.cons_append]
   unfold wpListIn
   rw [if_pos (gd_ok hg hA.inv)]
   exact wpIn_run (h2 w' hw) (rgo_ok h.2 ⟨hA.inv.put (dst_lt h.1) h1,hA.le⟩ hw fun s' a' hk ha hd ht=>hK s' a' hk ha (hd.trans (put_defers _ _ _)) fun i hi=>(ht i fun o' ho'=>hi o' (by simp [ho'])).trans (put_other (hi o (by simp))))
  ·rename_i hg
   rw [List.cons_append]
   unfold wpListIn
   rw [if_neg (by rw [gd_ok hg hA.inv];simp)]
   exact ⟨fun _ _=>trivial,rgo_ok h.2 ⟨hA.inv.put (dst_lt h.1) rfl,hA.le⟩ hw fun s' a' hk ha hd ht=>hK s' a' hk ha (hd.trans (put_defers _ _ _)) fun i hi=>(ht i fun o' ho'=>hi o' (by simp [ho'])).trans (put_other (hi o (by simp)))⟩
  ·exact h.elim
def Forgets (s1 s2:S):Prop:=s2.o=s1.o∧∀ i q,s2.get i=some q → s1.get i=some q
theorem Forgets.ok {N p:Nat} {Γ:G} {s1 s2:S} {a:Act} {w:World} (h:Forgets s1 s2) (hA:Stands N p Γ s1 a w):Stands N p Γ s2 a w :=
 ⟨⟨hA.inv.size,hA.inv.defers,fun i q hi=>hA.inv.t i q (h.2 i q hi),by rw [h.1];exact hA.inv.m⟩,hA.le⟩
theorem next_map {P:Program} (w:World) (ty:TypeId) (bm since c0:Nat) (seen:Array Nat) (es:Array MapEntry) (clock:Nat) (hb:w.heap[bm]? = some (.map es clock)) (hold:∀ x ∈ es.toList,x.born < since) (hsc:since≤c0) :
  ((leftOf es seen).size=0∧(Instr.next (.pointer (some ⟨w.heap.size,0,none⟩)) false ty).run P (w.alloc (.mapIter (some bm) since seen c0)) = .ok (.tuple #[.bool false]) (w.alloc (.mapIter (some bm) since seen c0))) ∨
  ∃ e ∈ (leftOf es seen).toList,∃ w1:World,(w1=w∨w1=w.drew)∧(Instr.next (.pointer (some ⟨w.heap.size,0,none⟩)) false ty).run P (w.alloc (.mapIter (some bm) since seen c0)) = .ok (.tuple #[.bool true,e.key,e.val]) (w1.alloc (.mapIter (some bm) since (seen.push e.born) clock)):=by
 have hlt:bm < w.heap.size:=by
  rcases Nat.lt_or_ge bm w.heap.size with h|h
  ·exact h
  ·simp [Array.getElem?_eq_none h] at hb
 have hb':(w.alloc (.mapIter (some bm) since seen c0)).heap[bm]? = some (.map es clock):=by rw [(MapKept.heap_alloc w _).2 _ hlt,hb]
 simp only [Instr.next,getObj,Sem.run_bind,Sem.run,heap_alloc_new,hb',Result.andThen,next_test_false seen es since c0 hold hsc,Bool.false_eq_true,if_false]
 unfold leftOf
 have hmem:∀ x ∈ (Array.filter (fun e=>!seen.contains e.born) es).toList,x.born < since:=fun x hx=>hold x (by simp at hx ⊢;exact hx.1)
 generalize Array.filter (fun e=>!seen.contains e.born) es=L at hmem ⊢
 have e1:L.filter (fun x=>decide (x.born < since))=L:=Array.filter_eq_self.2 (fun x hx=>by simpa using hmem x (by simpa using hx))
 have e2:L.filter (fun x=>decide (x.born ≥ since)) = #[]:=by
  rw [Array.filter_eq_empty_iff]
  intro x hx
  have:=hmem x (by simpa using hx)
  simp
  omega
 simp only [e1,e2,Array.append_empty]
 by_cases h0:L.size=0
 ·left
  have:L = #[]:=Array.eq_empty_of_size_eq_zero h0
  subst this
  refine ⟨rfl,?_⟩
  simp [choose,Sem.run,Question.forced]
 ·right
  have hne:L.isEmpty=false:=by simp [Array.isEmpty,h0]
  simp only [hne,Bool.false_eq_true,if_false,Array.empty_append,Array.size_map]
  have hch:∃ (j:Nat) (w1:World),j < L.size∧(w1=w∨w1=w.drew)∧(choose (Question.mapNext L.size)).run P (w.alloc (.mapIter (some bm) since seen c0)) = .ok j (w1.alloc (.mapIter (some bm) since seen c0)):=by
   by_cases hf:L.size≤1
   ·exact ⟨0,w,by omega,.inl rfl,by simp [choose,Sem.run,Question.forced,hf]⟩
   ·exact ⟨_,w.drew,Nat.mod_lt _ (by omega),.inr rfl,by
     simp only [choose,Sem.run,Question.forced,decide_eq_true_eq,hf,if_false,Question.cut]
     rfl⟩
  obtain ⟨j,w1,hj,hal,hrun⟩:=hch
  refine ⟨L[j],by simp,w1,hal,?_⟩
  have hsz:w1.heap.size=w.heap.size:=by rcases hal with rfl|rfl<;>rfl
  have hp:∀ (h:Array Obj) (x y:Obj),(h.push x).setIfInBounds h.size y=h.push y:=by
   intro h x y
   apply Array.toList_inj.1
   simp
  have hset:∀ (a:Option Nat) (b:Nat) (c:Array Nat) (d:Nat) (o':Obj),(setObj w.heap.size o').run P (w1.alloc (.mapIter a b c d)) = .ok () (w1.alloc o'):=fun a b c d o'=>by
   simp only [setObj,Sem.run]
   rw [← hsz,heap_alloc_new]
   show Result.ok () ({ w1.alloc (.mapIter a b c d) with heap:=(w1.heap.push (.mapIter a b c d)).setIfInBounds w1.heap.size o' }:World)=_
   rw [hp]
   rfl
  simp only [hrun,Array.getElem?_map,Array.getElem?_eq_getElem hj,Option.map_some,Sem.run_bind,hset,Result.andThen]
  rfl
theorem leftOf_list (ms:Array MapEntry) (seen:Array Nat):(leftOf ms seen).toList=ms.toList.filter fun e=>!seen.contains e.born:=by unfold leftOf;simp
theorem leftOf_push {ms:Array MapEntry} {seen:Array Nat} {e:MapEntry} (h:e ∈ (leftOf ms seen).toList):(leftOf ms (seen.push e.born)).size < (leftOf ms seen).size:=by
 rw [← Array.length_toList,← Array.length_toList,leftOf_list,leftOf_list]
 rw [leftOf_list,List.mem_filter] at h
 refine filter_lt (fun x=>!seen.contains x.born) (fun x=>!(seen.push e.born).contains x.born) (fun x hx=>?_) e h.2 (by simp) ms.toList h.1
 simp only [Bool.not_eq_true',Array.contains_eq_mem,decide_eq_false_iff_not,Array.mem_push,not_or] at hx ⊢
 exact hx.1
theorem run_next_op {P:Program} {o:Oper} {x:Operand} {a:Act} {w w':World} {v y:Value} (ho:o.op = .next x false) (hv:a.eval x=v) (h:(Instr.next v false o.type).run P w = .ok y w'):(execOp a.eval o).run P w = .ok (.value y) w':=by
 simp only [execOp,ho,hv,Sem.run_bind,h,Result.andThen]
 rfl
theorem run_entry_op {P:Program} {o:Oper} {x:Operand} {a:Act} {w w':World} {v y:Value} (ho:o.op = .entry x) (hv:a.eval x=v) (h:(Instr.entry v).run P w = .ok y w'):(execOp a.eval o).run P w = .ok (.value y) w':=by
 simp only [execOp,ho,hv,Sem.run_bind,h,Result.andThen]
 rfl
theorem run_range_op {P:Program} {o:Oper} {t:TypeId} {x:Operand} {a:Act} {w w':World} {v y:Value} (ho:o.op = .range t x) (hv:a.eval x=v) (h:(Instr.range t v).run P w = .ok y w'):(execOp a.eval o).run P w = .ok (.value y) w':=by
 simp only [execOp,ho,hv,Sem.run_bind,h,Result.andThen]
 rfl
theorem run_extract_op {P:Program} {o:Oper} {x:Operand} {a:Act} {w:World} {vs:Array Value} {n:Nat} {y:Value} (ho:o.op = .extract x n) (hv:a.eval x = .tuple vs) (h:vs[n]? = some y):(execOp a.eval o).run P w = .ok (.value y) w:=by
 simp [execOp,ho,hv,Instr.extract,h]
theorem run_assign_op {P:Program} {o:Oper} {x:Operand} {a:Act} {w:World} {y:Value} (ho:o.op = .assign x) (hv:a.eval x=y):(execOp a.eval o).run P w = .ok (.value y) w:=by
 simp [execOp,ho,hv]
theorem Grow.of_no {p:Nat} {Γ:G} {w w':World} (h:Ext No w w'):Grow p Γ w Γ w':=⟨h.mono fun _ hk=>hk.elim,fun _ hb=>hb,fun k hk hc=>.inl ⟨k,hk,hc,rfl⟩,fun _ hb=>.inl hb,fun _ _=>⟨rfl,rfl⟩⟩
theorem wanted_none {o:Oper} {f:Nat → Option Bool} (h:o.guard=none):Region.wanted o f=true:=by simp [Region.wanted,h]
theorem list_one {P:Program} {ops:Array Oper} {Q:Exit → Act → World → Prop} {o:Oper} {rest:List Oper} {a:Act} {w w':World} {y:Value} (hg:o.guard=none) (h:(execOp a.eval o).run P w = .ok (.value y) w') (hK:wpListIn (Fw none) 0 P ops Q rest (a.put o.dst y) w'):wpListIn (Fw none) 0 P ops Q (o :: rest) a w:=by
 unfold wpListIn
 rw [if_pos (wanted_none hg)]
 exact wpIn_run h hK
def mrLoop (b2 b3 r6 r7 r8:Nat) (t19:Nat) (nx fl en ex asg:Oper) (ops8:List Oper):Code :=
 .loop (.seq (.region r6 [nx,fl].toArray false) (.seq (.cond (.tmp t19) .skip (.exit b2)) (.block b3 (.seq (.region r7 [en,ex,asg].toArray false) (.region r8 ops8.toArray false)))))
structure MrOps (N it tb t19 te tv v:Nat) (nx fl en ex asg:Oper):Prop where
 nx:nx.op = .next (.tmp it) false∧nx.guard=none∧nx.dst=some tb
 fl:fl.op = .extract (.tmp tb) 0∧fl.guard=none∧fl.dst=some t19
 en:en.op = .entry (.tmp it)∧en.guard=none∧en.dst=some te
 ex:ex.op = .extract (.tmp te) 1∧ex.guard=none∧ex.dst=some tv
 asg:asg.op = .assign (.tmp tv)∧asg.guard=none∧asg.dst=some v
 lt:(it < N∧tb < N)∧(t19 < N∧te < N)∧(tv < N∧v < N)
 ne:(it≠tb∧it≠t19)∧(it≠te∧it≠tv)∧it≠v
def freshAt (s:S) (it tb t19 te tv:Nat):Prop:=(s.get it=none∧s.get tb=none)∧(s.get t19=none∧s.get te=none)∧s.get tv=none
theorem act_size {a:Act} {d:Option Nat} {y:Value}:(a.put d y).tmps.size=a.tmps.size:=by cases d<;>simp [Act.put]
theorem eval_put_self {a:Act} {d N:Nat} {y:Value} (hs:a.tmps.size=N) (h:d < N):(a.put (some d) y).eval (.tmp d)=y:=by
 have:d < a.tmps.size:=by omega
 simp [Act.eval,Act.put,this]
end Go.Proofs.YthconflkbeipoaaGreatDoor
namespace Go.Proofs.YthconflkbeipoaaGreatDoor
attribute [local irreducible] PL QL PWPr PCalls Weak RetK Kontr PA
open Go.RowKit
open IntWalk renaming iteOmega → iO, toNatUp → tN
set_option linter.unusedVariables false
set_option linter.unusedSimpArgs false
set_option maxRecDepth 20000
def tgE (names:List Atr):List (MK × List D):=names.map fun a=>(.s a.name,[.v (.string a.value)])
theorem mget_tg (n:ByteArray):∀ names:List Atr,mget (tgE names) (.s n)=(valOf names n).map fun v=>[.v (.string v)]
 | []=>rfl
 | a :: l=>by
  have ih:=mget_tg n l
  unfold valOf at ih ⊢
  simp only [tgE,List.map_cons,mget,MK.s.injEq,List.find?_cons] at ih ⊢
  by_cases h:a.name=n
  ·rw [if_pos h,decide_eq_true h];rfl
  ·rw [if_neg h,decide_eq_false h];exact ih
theorem mput_tg {n v:ByteArray}:∀ {names:List Atr},n ∉ keys names → mput (tgE names) (.s n) [.v (.string v)]=tgE (names++[⟨n,v⟩])
 | [],_=>rfl
 | a :: l,h=>by
  simp only [keys,List.map_cons,List.mem_cons,not_or] at h
  have ih:=mput_tg (n:=n) (v:=v) (names:=l) h.2
  simp only [tgE,List.map_cons,List.cons_append,mput,MK.s.injEq] at ih ⊢
  rw [if_neg (fun e=>h.1 e.symm),ih]
def delS:List ByteArray → ByteArray → List ByteArray
 | [],_=>[]
 | a :: l,s=>if a=s then l else a :: delS l s
theorem mdel_set (s:ByteArray):∀ l:List ByteArray,mdel (setE l) (.s s)=setE (delS l s)
 | []=>rfl
 | a :: l=>by
  have ih:=mdel_set s l
  simp only [setE,List.map_cons,mdel,delS,MK.s.injEq] at ih ⊢
  by_cases h:a=s
  ·rw [if_pos h,if_pos h]
  ·rw [if_neg h,if_neg h,ih];rfl
theorem mem_delS {s x:ByteArray}:∀ {l:List ByteArray},l.Nodup → (x ∈ delS l s ↔ x ∈ l∧x≠s)
 | [],_=>by simp [delS]
 | a :: l,h=>by
  obtain ⟨h1,h2⟩:=List.nodup_cons.1 h
  have ih:=mem_delS (s:=s) (x:=x) h2
  rw [delS]
  by_cases e:a=s
  ·subst e
   rw [if_pos rfl,List.mem_cons]
   constructor
   ·exact fun hx=>⟨.inr hx,fun e=>by subst e;exact h1 hx⟩
   ·rintro ⟨rfl|hx,hne⟩
    ·exact absurd rfl hne
    ·exact hx
  ·rw [if_neg e,List.mem_cons,List.mem_cons,ih]
   constructor
   ·rintro (rfl|⟨hx,hne⟩)
    ·exact ⟨.inl rfl,e⟩
    ·exact ⟨.inr hx,hne⟩
   ·rintro ⟨rfl|hx,hne⟩
    ·exact .inl rfl
    ·exact .inr ⟨hx,hne⟩
theorem nodup_delS {s:ByteArray}:∀ {l:List ByteArray},l.Nodup → (delS l s).Nodup
 | [],_=>List.nodup_nil
 | a :: l,h=>by
  obtain ⟨h1,h2⟩:=List.nodup_cons.1 h
  rw [delS]
  split
  ·exact h2
  ·exact List.nodup_cons.2 ⟨fun hm=>h1 ((mem_delS h2).1 hm).1,nodup_delS h2⟩
structure TakOk (now:List Atr) (tk:List ByteArray):Prop where
 nd:tk.Nodup
 mem:∀ s,s ∈ tk ↔ s ∈ vals now
theorem TakOk.inm {now:List Atr} {tk:List ByteArray} (h:TakOk now tk) (s:ByteArray):inM s tk=inM s (vals now):=by
 cases h1:inM s (vals now) with
 | true=>exact inM_iff.2 ((h.mem s).2 (inM_iff.1 h1))
 | false=>exact inM_false.2 fun hc=>inM_false.1 h1 ((h.mem s).1 hc)
theorem TakOk.ren {now:List Atr} {tk:List ByteArray} (h:TakOk now tk) (hv:(vals now).Nodup) {i:Nat} (hi:i < now.length) (u:ByteArray):TakOk (renP now i u) (addS (delS tk (now.getD i default).value) u):=by
 refine ⟨nodup_addS (nodup_delS h.nd),fun s=>?_⟩
 rw [mem_addS,mem_delS h.nd,h.mem,vals_renP]
 have hil:i < (vals now).length:=by unfold vals;rw [List.length_map];exact hi
 have hgi:(vals now)[i]=(now.getD i default).value:=by simp only [vals,List.getElem_map];rw [getD_lt now hi]
 constructor
 ·rintro (⟨h1,h2⟩|rfl)
  ·obtain ⟨j,hj,rfl⟩:=List.getElem_of_mem h1
   have hne:i≠j:=fun e=>by subst e;exact h2 hgi
   have:=List.getElem_mem (l:=(vals now).set i u) (n:=j) (by rw [List.length_set];exact hj)
   rwa [List.getElem_set_ne hne] at this
  ·exact List.mem_set hil s
 ·intro hs
  obtain ⟨j,hj,rfl⟩:=List.getElem_of_mem hs
  rw [List.length_set] at hj
  rw [List.getElem_set]
  split
  ·exact .inr rfl
  ·rename_i hne
   refine .inl ⟨List.getElem_mem _,fun e=>?_⟩
   rw [← hgi] at e
   exact hne ((List.getElem_inj hv).1 e).symm
abbrev plO (names now:List Atr) (tk:List ByteArray):List Ob:=[.box 85 [.own 1 now.length,.mp 2,.mp 3],.arr 33 2 (now.map Atr.d),.map none false (tgE names),.map none false (setE tk)]
theorem lk_tg (names:List Atr) (n:ByteArray):lkP false (.c (.v (.string ⟨#[]⟩))) true (mget (tgE names) (.s n))=some (.two (.c (.v (.string ((valOf names n).getD ⟨#[]⟩)))) (.c (.v (.bool (valOf names n).isSome)))):=by
 rw [mget_tg]
 cases valOf names n<;>rfl
theorem lk_tg0 (names:List Atr) (n:ByteArray):lkP false (.c (.v (.string ⟨#[]⟩))) false (mget (tgE names) (.s n))=some (.c (.v (.string ((valOf names n).getD ⟨#[]⟩)))):=by
 rw [mget_tg]
 cases valOf names n<;>rfl
theorem wrong_pure (names now:List Atr) (tk:List ByteArray) (a:Atr):PCalls Tryz.prog 82 [.c (.ptr 0 0),.agg (a.d.map D.e)] (plO names now tk) fun r os=>r = .c (.v (.bool (wrongP names a)))∧os=plO names now tk:=by
 have hl:=lk_tg names a.name
 have hw:wrongP names a=match valOf names a.name with|some v=>!decide (v=a.value)|none=>false:=rfl
 cases hv:valOf names a.name with
 | none =>
  rw [hv] at hl hw
  simp only [Option.getD_none,Option.isSome_none] at hl
  simp only at hw
  refine pcalls_of Tryz.func82 rfl (by simp [Tryz.ntmps82]) ?_
  rw [Tryz.ntmps82,Tryz.results82]
  push_cast [iO,tN]
  repeat' (first|((first|refine pG ?_|refine pQ ?_|refine pU ?_);push_cast [iO,tN,hl])|(refine pif (fun h=>?_) (fun h=>?_)<;>first|exact pN h|push_cast [iO,tN,hl]))
  (refine retK_of [0,1,2,3] ?_;push_cast [iO,tN,hw])
 | some v =>
  rw [hv] at hl hw
  simp only [Option.getD_some,Option.isSome_some] at hl
  replace hw:wrongP names a=decide (v≠a.value):=by rw [hw];exact decide_not.symm
  refine pcalls_of Tryz.func82 rfl (by simp [Tryz.ntmps82]) ?_
  rw [Tryz.ntmps82,Tryz.results82]
  push_cast [iO,tN]
  repeat' (first|((first|refine pG ?_|refine pQ ?_|refine pU ?_);push_cast [iO,tN,hl])|(refine pif (fun h=>?_) (fun h=>?_)<;>first|exact pN h|push_cast [iO,tN,hl]))
  (refine retK_of [0,1,2,3] ?_;push_cast [iO,tN,hw])
set_option maxHeartbeats 4000000 in
theorem rename_pure (names now:List Atr) (tk:List ByteArray) (i:Nat) (u:ByteArray) (hi:i < now.length) (hn:now.length≤1000000) :
  PCalls Tryz.prog 83 [.c (.ptr 0 0),.c (.v (.int .i64 i)),.c (.v (.string u))] (plO names now tk) fun r os=>r = .agg (Ren.e ⟨(now.getD i default).name,(now.getD i default).value,u⟩)∧os=plO names (renP now i u) (addS (delS tk (now.getD i default).value) u):=by
 obtain ⟨a,ha⟩:∃ a,now.getD i default=a:=⟨_,rfl⟩
 rw [ha]
 have hdl:=mdel_set a.value tk
 have hmp:=mput_set u (delS tk a.value)
 have hX:(now.map Atr.d).set i [.v (.string (now.getD i default).name),.v (.string u)]=(renP now i u).map Atr.d:=by unfold renP;rw [List.map_set];rfl
 have hrl:=len_renP now i u
 refine pcalls_of Tryz.func83 rfl (by simp [Tryz.ntmps83]) ?_
 rw [Tryz.ntmps83,Tryz.results83]
 push_cast [iO,tN]
 have cB:CutB 8 []:=trivial
 repeat' (first|(refine hidR 1 ?_)|((first|refine pC ?_|refine pQC ?_|refine pU ?_);push_cast [iO,tN,ha])|(refine pif (fun h=>?_) (fun h=>?_)<;>first|exact pN h|push_cast [iO,tN,ha]))
 refine unhid ?_
 (refine pwp_cut 8 [] ?_;refine pwp_drawn (by kernel_rfl) ?_;simp only [List.length_cons,List.length_nil,Nat.reduceAdd];refine pah 0 ?_;push_cast [iO,tN,  ha];refine pah 1 ?_;push_cast [iO,tN,  ha];refine pah 2 ?_;push_cast [iO,tN,  ha];refine pah 4 ?_;push_cast [iO,tN,  ha];refine pah 8 ?_;push_cast [iO,tN,  ha];refine pah 9 ?_;push_cast [iO,tN,  ha];refine pah 10 ?_;push_cast [iO,tN,  ha];refine pah 12 ?_;push_cast [iO,tN,  ha];refine pah 16 ?_;push_cast [iO,tN,  ha];apply pa_hav;intro z18;apply pa_hav;intro z17;apply pa_hav;intro z14;apply pa_hav;intro z15;apply pa_hav;intro z16;apply pa_hav;intro z9;apply pa_hav;intro z11;apply pa_hav;intro z12;apply pa_hav;intro z5;apply pa_hav;intro z10;apply pa_hav;intro z13;apply pa_hav;intro z4;apply pa_hav;intro z6;apply pa_hav;intro z7;apply pa_hav;intro z8;apply pa_hav;intro z1;apply pa_hav;intro z2;apply pa_hav;intro z3;refine pas [3,11,18] ?_;push_cast [iO,tN,  ha];refine ⟨?_,?_,?_⟩;(focus (refine pah 5 ?_;push_cast [iO,tN,  ha];refine pah 6 ?_;push_cast [iO,tN,  ha];exact z1));(focus (refine pah 13 ?_;push_cast [iO,tN,  ha];refine pah 14 ?_;push_cast [iO,tN,  ha];exact z2));(focus (exact z3));refine pas [3,11] ?_;push_cast [iO,tN,  ha];refine ⟨?_,?_⟩;(focus (refine pah 5 ?_;push_cast [iO,tN,  ha];refine pah 6 ?_;push_cast [iO,tN,  ha];exact z6));(focus (refine pah 13 ?_;push_cast [iO,tN,  ha];refine pah 14 ?_;push_cast [iO,tN,  ha];exact z8));refine pas [3,15,18] ?_;push_cast [iO,tN,  ha];refine ⟨?_,?_,?_⟩;(focus (refine pah 5 ?_;push_cast [iO,tN,  ha];refine pah 6 ?_;push_cast [iO,tN,  ha];exact z5));(focus (exact z7));(focus (refine paw z8 ?_;refine weak_fg ?_;push_cast [iO,tN,  ha]));refine pas [7,11,18] ?_;push_cast [iO,tN,  ha];refine ⟨?_,?_,?_⟩;(focus (exact z4));(focus (refine pah 13 ?_;push_cast [iO,tN,  ha];refine pah 14 ?_;push_cast [iO,tN,  ha];refine paw z5 ?_;refine weak_fg ?_;push_cast [iO,tN,  ha]));(focus (refine paw z6 ?_;refine weak_fg ?_;push_cast [iO,tN,  ha]));refine pas [3,15] ?_;push_cast [iO,tN,  ha];refine ⟨?_,?_⟩;(focus (refine pah 5 ?_;push_cast [iO,tN,  ha];refine pah 6 ?_;push_cast [iO,tN,  ha];exact z12));(focus (exact z13));refine pas [3,18] ?_;push_cast [iO,tN,  ha];refine ⟨?_,?_⟩;(focus (refine pah 5 ?_;push_cast [iO,tN,  ha];refine pah 6 ?_;push_cast [iO,tN,  ha];exact z11));(focus (refine paw z13 ?_;refine weak_fg ?_;push_cast [iO,tN,  ha]));refine pas [7,11] ?_;push_cast [iO,tN,  ha];refine ⟨?_,?_⟩;(focus (exact z10));(focus (refine pah 13 ?_;push_cast [iO,tN,  ha];refine pah 14 ?_;push_cast [iO,tN,  ha];refine paw z12 ?_;refine weak_fg ?_;push_cast [iO,tN,  ha]));refine pas [11,18] ?_;push_cast [iO,tN,  ha];refine ⟨?_,?_⟩;(focus (refine pah 13 ?_;push_cast [iO,tN,  ha];refine pah 14 ?_;push_cast [iO,tN,  ha];exact z9));(focus (refine paw z10 ?_;refine weak_fg ?_;push_cast [iO,tN,  ha]));refine pas [3] ?_;push_cast [iO,tN,  ha];(focus (refine pah 5 ?_;push_cast [iO,tN,  ha];refine pah 6 ?_;push_cast [iO,tN,  ha];exact z16));refine pas [11] ?_;push_cast [iO,tN,  ha];(focus (refine pah 13 ?_;push_cast [iO,tN,  ha];refine pah 14 ?_;push_cast [iO,tN,  ha];exact z15));refine pas [7,15,18] ?_;push_cast [iO,tN,  ha];refine ⟨paw z9 ?_,paw z11 ?_,paw z12 ?_⟩<;>(refine weak_fg ?_;push_cast [iO,tN,  ha]);refine pas [7,15] ?_;push_cast [iO,tN,  ha];refine ⟨paw z15 ?_,paw z16 ?_⟩<;>(refine weak_fg ?_;push_cast [iO,tN,  ha]);refine pas [7,18] ?_;push_cast [iO,tN,  ha];refine ⟨?_,?_⟩;(focus (refine pah 17 ?_;push_cast [iO,tN,  ha];exact z14));(focus (refine paw z16 ?_;refine weak_fg ?_;push_cast [iO,tN,  ha]));refine pas [15,18] ?_;push_cast [iO,tN,  ha];refine ⟨?_,?_⟩;(focus (refine pah 17 ?_;push_cast [iO,tN,  ha];refine paw z14 ?_;refine weak_fg ?_;push_cast [iO,tN,  ha]));(focus (refine paw z15 ?_;refine weak_fg ?_;push_cast [iO,tN,  ha]));refine pas [7] ?_;push_cast [iO,tN,  ha];(focus (refine pah 17 ?_;push_cast [iO,tN,  ha];exact z17));refine pas [15] ?_;push_cast [iO,tN,  ha];(focus (refine pah 17 ?_;push_cast [iO,tN,  ha];refine paw z17 ?_;refine weak_fg ?_;push_cast [iO,tN,  ha]));refine pas [18] ?_;push_cast [iO,tN,  ha];refine paw z17 ?_<;>(refine weak_fg ?_;push_cast [iO,tN,  ha]);refine pas [19] ?_;push_cast [iO,tN,  ha];refine paw z18 (weak_cutS 8 [] _);push_cast [iO,tN,  ha];refine pad ?_;push_cast [iO,tN,  ha])
 repeat' (first|((refine pwp_cut 8 [] ?_;apply pwp_drawn_to;(focus kernel_rfl);(focus (simp only [List.length_cons,List.length_nil,Nat.reduceAdd];(repeat' first|((first|refine pah 0 ?_|refine pah 1 ?_|refine pah 2 ?_|refine pah 4 ?_);push_cast [iO,tN,  hdl])|(refine pad ?_;first|with_reducible exact weak_cutS 8 [] _|(refine weak_fg ?_;push_cast [iO,tN,  hdl]))|((first|refine pas [3] ?_|refine pas [5] ?_|refine pas [6] ?_);push_cast [iO,tN,  hdl])|((first|refine pas [3,5] ?_);push_cast [iO,tN,  hdl];refine ⟨?_,?_⟩));done));push_cast [iO,tN,  hdl]))|((first|refine pC ?_|refine pQC ?_|refine pU ?_);push_cast [iO,tN,ha,hdl,hmp])|(refine pif (fun h=>?_) (fun h=>?_)<;>first|exact pN h|push_cast [iO,tN,ha,hdl,hmp]))
 (refine retK_of [0,1,2,3] ?_;push_cast [iO,tN,hX,hrl])
end Go.Proofs.YthconflkbeipoaaGreatDoor
namespace Go.Proofs.YthconflkbeipoaaGreatDoor
open Go.RowKit
open IntWalk renaming iteOmega → iO, toNatUp → tN
set_option linter.unusedVariables false
set_option linter.unusedSimpArgs false
theorem pwp_maprange0 {rd:Option Nat} {P:Program} {N p:Nat} {Q:Exit → S → Prop} {s:S} {α:Type} {pre:List Oper} {rng nx fl en ex asg:Oper} {ops8:List Oper} {r5 r6 r7 r8 b2 b3 it tb t19 te tv v m:Nat} {kk:Option IntKind} {es:List (MK × List D)} {tm tk tel:TypeId} {xo:Operand}
  (x0:α) (Φ:α → List (MK × List D) → Prop) (St:α → S)
  (hM:MrOps N it tb t19 te tv v nx fl en ex asg) (hpl:plains (pre++[rng])=true) (hpl6:plains [nx,fl]=true) (hpl7:plains [en,ex,asg]=true) (hpl8:plains ops8=true) (hty:P.underlying tm=some (.map tk tel))
  (hr:rng.op = .range tm xo∧rng.guard=none∧rng.dst=some it)
  (hpre:rgo P N (pre++[rng]).toArray pre s fun s'=>s'.ev xo=some (.c (.mp m))∧s'.o[m]? = some (.map kk false es)∧Forgets s' (St x0))
  (hfr:∀ x,freshAt (St x) it tb t19 te tv) (hk8:∀ o ∈ ops8,o.dst≠some it) (ho:∀ x,(St x).o=s.o) (h0:Φ x0 [])
  (round:∀ x done e d,Φ x done → e ∈ es → e.2=[d] → rgo P N ops8.toArray ops8 ((St x).put (some v) (.c d.e)) fun s'=>∃ x',Φ x' (e :: done)∧Forgets s' (St x'))
  (fin:∀ x done,(∀ e ∈ es,e ∈ done) → Φ x done → Q .normal (St x)) :
  PWPr rd P N p (.seq (.region r5 (pre++[rng]).toArray false) (.block b2 (mrLoop b2 b3 r6 r7 r8 t19 nx fl en ex asg ops8))) Q s:=by
 intro z Γ a w hA hD
 refine wpIn_seq (wpIn_region_lit (list_rd hpl ?_))
 refine rgo_ok hpre hA (Same.refl w) fun s1 a1 ⟨hev,hob,hfo⟩ hA1 hd1 _=>?_
 obtain ⟨hcap,ms,clock,hblk,hRM⟩:=hA1.inv.m.ob m _ hob
 have hxe:a1.eval xo = .map (some (Γ.β m)):=by
  have:=(S.ev_ok hev hA1.inv)
  exact this.2
 have hlt:Γ.β m < w.heap.size:=(Array.getElem?_eq_some_iff.1 hblk).1
 refine list_one hr.2.1 (run_range_op hr.1 hxe (run_range_map w tm tk tel (Γ.β m) ms clock hty hblk)) ?_
 rw [hr.2.2]
 refine wpIn_block ?_
 have hSt0:Stands N p Γ (St x0) a1 w:=hfo.ok hA1
 obtain ⟨⟨hn1,hn2,hn3⟩,⟨hf1,hf2,hf3⟩,⟨he1,he2,he3⟩,⟨hx1,hx2,hx3⟩,⟨hs1,hs2,hs3⟩,⟨⟨l1,l2⟩,⟨l3,l4⟩,l5,l6⟩,⟨⟨e1,e2⟩,⟨e3,e4⟩,e5⟩⟩:=hM
 have hborn:∀ x ∈ ms.toList,x.born < clock:=fun x hx=>hRM.clock _ (List.mem_map.2 ⟨x,hx,rfl⟩)
 have hnod:(ms.toList.map (·.born)).Nodup:=hRM.born.imp fun h=>by omega
 have hsame:∀ w1:World,w1.heap=w.heap → Ext No w w1 → ∀ o,Ext No w (w1.alloc o):=fun w1 _ h o=>h.alloc o
 have hstand:∀ (x:α) (a':Act) (w2 w3:World),Stands N p Γ (St x) a' w2 → Same w2 w3 → Stands N p Γ (St x) a' w3:=fun x a' w2 w3 h hs=>⟨h.inv.same hs,h.le⟩
 refine wpIn_loop_ghost (fun n a' w'=>∃ (x:α) (done:List (MK × List D)) (seen:Array Nat) (w1:World),w'=w1.alloc (.mapIter (some (Γ.β m)) clock seen clock)∧(w1.heap=w.heap∧Ext No w w1)∧Stands N p Γ (St x) a' w∧a'.eval (.tmp it) = .pointer (some ⟨w.heap.size,0,none⟩)∧a'.defers=a.defers∧Φ x done∧(∀ (i:Nat) (e:MK × List D) (mi:MapEntry),es[i]? = some e → ms.toList[i]? = some mi → seen.contains mi.born=true → e ∈ done)∧n=(leftOf ms seen).size) (leftOf ms #[]).size ?_ ?_
 ·refine ⟨x0,[],#[],w,rfl,⟨rfl,Ext.refl _ w⟩,⟨hSt0.inv.fresh (hfr x0).1.1,hSt0.le⟩,eval_put_self hA1.inv.size l1,(put_defers _ _ _).trans hd1,h0,fun i e mi _ _ h=>by simp at h,rfl⟩
 rintro n a' w' ⟨x,done,seen,w1,rfl,⟨hh1,hx⟩,hSx,hit,hdf,hΦ,hcov,rfl⟩
 have hsz:w1.heap.size=w.heap.size:=by rw [hh1]
 have hblk1:w1.heap[Γ.β m]? = some (.map ms clock):=by rw [hh1];exact hblk
 have htz:a'.tmps.size=N:=hSx.inv.size
 refine wpIn_seq (wpIn_region_lit (list_rd hpl6 ?_))
 rcases next_map (P:=P) w1 nx.type (Γ.β m) clock clock seen ms clock hblk1 hborn (Nat.le_refl _) with ⟨hz0,hrun⟩|⟨e,heL,w2,hw2,hrun⟩
 ·rw [← hsz] at hit
  refine list_one hn2 (run_next_op hn1 hit hrun) ?_
  rw [hn3]
  refine list_one hf2 (run_extract_op hf1 (eval_put_self htz l2) rfl) ?_
  rw [hf3]
  refine wpIn_seq (wpIn_cond (t:=false) (eval_put_self (by rw [act_size];exact htz) l3) (wpIn_exit ?_))
  have hext:Ext No w (w1.alloc (.mapIter (some (Γ.β m)) clock seen clock)):=hx.alloc _
  have hfin:Q .normal (St x):=fin x done (fun e' he'=>by
   obtain ⟨i,hi,rfl⟩:=List.getElem_of_mem he'
   have hg:es[i]? = some es[i]:=List.getElem?_eq_getElem hi
   obtain ⟨mi,hmi,_⟩:=hRM.rows.get i _ hg
   refine hcov i _ mi hg hmi ?_
   cases hc:seen.contains mi.born with
   | true=>rfl
   | false =>
    exfalso
    have hm:mi ∈ (leftOf ms seen).toList:=by
     rw [leftOf_list,List.mem_filter]
     exact ⟨List.mem_of_getElem? hmi,by rw [hc];rfl⟩
    have:(leftOf ms seen).toList=[]:=List.length_eq_zero_iff.1 (by rw [Array.length_toList];exact hz0)
    rw [this] at hm
    cases hm) hΦ
  have hSf:Stands N p Γ (St x) ((a'.put (some tb) (.tuple #[.bool false])).put (some t19) (.bool false)) (w1.alloc (.mapIter (some (Γ.β m)) clock seen clock)):=hstand x _ w _ ⟨(hSx.inv.fresh (hfr x).1.2).fresh (hfr x).2.1.1,hSx.le⟩ (Same.of_ext hext)
  have hg0:Grow p Γ w Γ (w1.alloc (.mapIter (some (Γ.β m)) clock seen clock)):=Grow.of_no hext
  simp only [Exit.inBlock,Exit.then,if_true]
  exact ⟨St x,Γ,hfin,hSf,hg0,hD.grow hg0 (by rw [put_defers,put_defers];exact hdf)⟩
 ·rw [← hsz] at hit
  have hem:e ∈ ms.toList:=by rw [leftOf_list,List.mem_filter] at heL;exact heL.1
  have hh2:w2.heap=w.heap:=by rcases hw2 with rfl|rfl<;>exact hh1
  have hx2':Ext No w w2:=by
   rcases hw2 with rfl|rfl
   ·exact hx
   ·exact hx.drew
  have hsz2:w2.heap.size=w1.heap.size:=by rw [hh2,hh1]
  obtain ⟨i,hi,hie⟩:=List.getElem_of_mem hem
  have hmi:ms.toList[i]? = some e:=by rw [List.getElem?_eq_getElem hi,hie]
  have hil:i < es.length:=by rw [hRM.rows.length];exact hi
  have hgi:es[i]? = some es[i]:=List.getElem?_eq_getElem hil
  obtain ⟨mi,hmi2,hkey,hval⟩:=hRM.rows.get i _ hgi
  rw [hmi] at hmi2
  cases hmi2
  obtain ⟨xs,hxs,hxv⟩:=hval
  simp only at hxv
  subst hxv
  obtain ⟨d,hd2⟩:∃ d,es[i].2=[d]:=by
   have:=hxs.length
   cases h:es[i].2 with
   | nil=>rw [h] at this;simp at this
   | cons d l =>
    rw [h] at this
    simp only [List.length_cons,List.length_nil] at this
    have:l=[]:=List.length_eq_zero_iff.1 (by omega)
    subst this
    exact ⟨d,rfl⟩
  rw [hd2] at hxs
  have hrd:RD w Γ.I d e.val:=by
   obtain ⟨b',m',h1,h2,_⟩:=All2.cons_l.1 hxs
   cases h1
   exact h2
  refine list_one hn2 (run_next_op hn1 hit hrun) ?_
  rw [hn3]
  refine list_one hf2 (run_extract_op hf1 (eval_put_self htz l2) rfl) ?_
  rw [hf3]
  refine wpIn_seq (wpIn_cond (t:=true) (eval_put_self (by rw [act_size];exact htz) l3) (wpIn_skip ?_))
  refine wpIn_block (wpIn_seq (wpIn_region_lit (list_rd hpl7 ?_)))
  have hit2:((a'.put (some tb) (.tuple #[.bool true,e.key,e.val])).put (some t19) (.bool true)).eval (.tmp it) = .pointer (some ⟨w2.heap.size,0,none⟩):=by rw [eval_put_ne (Ne.symm e2),eval_put_ne (Ne.symm e1),hit,hsz2]
  have hblk2:w2.heap[Γ.β m]? = some (.map ms clock):=by rw [hh2];exact hblk
  refine list_one he2 (run_entry_op he1 hit2 (run_entry_map w2 (Γ.β m) clock seen ms clock e hblk2 hem hnod)) ?_
  rw [he3]
  refine list_one hx2 (run_extract_op hx1 (eval_put_self (by rw [act_size,act_size];exact htz) l4) rfl) ?_
  rw [hx3]
  refine list_one hs2 (run_assign_op hs1 (eval_put_self (by rw [act_size,act_size,act_size];exact htz) l5)) ?_
  rw [hs3]
  have hSb:Stands N p Γ ((St x).put (some v) (.c d.e)) (((((a'.put (some tb) (.tuple #[.bool true,e.key,e.val])).put (some t19) (.bool true)).put (some te) (.tuple #[e.key,e.val])).put (some tv) e.val).put (some v) e.val) w :=
   ⟨((((hSx.inv.fresh (hfr x).1.2).fresh (hfr x).2.1.1).fresh (hfr x).2.1.2).fresh (hfr x).2.2).put (dst_lt l6) (show RP w Γ (.c d.e) e.val from RE.of_d hrd),hSx.le⟩
  refine wpIn_region_lit (list_rd hpl8 ?_)
  have hb:=round x done es[i] d hΦ (List.getElem_mem _) hd2
  have hx3':Ext No w (w2.alloc (.mapIter (some (Γ.β m)) clock (seen.push e.born) clock)):=hx2'.alloc _
  have hnow:=rgo_ok (p:=p) (tail:=[]) (Q:=Exit.inBlock b3 (Exit.then (fun a'' w''=>∃ n',n' < (leftOf ms seen).size∧∃ (x:α) (done:List (MK × List D)) (seen:Array Nat) (w1:World),w''=w1.alloc (.mapIter (some (Γ.β m)) clock seen clock)∧(w1.heap=w.heap∧Ext No w w1)∧Stands N p Γ (St x) a'' w∧a''.eval (.tmp it) = .pointer (some ⟨w.heap.size,0,none⟩)∧a''.defers=a.defers∧Φ x done∧(∀ (i:Nat) (e:MK × List D) (mi:MapEntry),es[i]? = some e → ms.toList[i]? = some mi → seen.contains mi.born=true → e ∈ done)∧n'=(leftOf ms seen).size) (Exit.inBlock b2 (Post z N p Q Γ w)))) hb hSb (Same.of_ext hx3') (fun s' a'' ⟨x',hΦ',hfo'⟩ hA' hd' ht'=>?_)
  ·rw [List.append_nil] at hnow
   exact hnow
  ·refine ⟨(leftOf ms (seen.push e.born)).size,leftOf_push heL,x',es[i] :: done,seen.push e.born,w2,rfl,⟨hh2,hx2'⟩,hfo'.ok hA',?_,?_,hΦ',fun j e' mj hj hmj hs=>?_,rfl⟩
   ·rw [ht' it hk8,eval_put_ne (Ne.symm e5),eval_put_ne (Ne.symm e4),eval_put_ne (Ne.symm e3),hit2,hsz2,hsz]
   ·rw [hd',put_defers,put_defers,put_defers,put_defers,put_defers];exact hdf
   ·by_cases hc:seen.contains mj.born=true
    ·exact List.mem_cons_of_mem _ (hcov j e' mj hj hmj hc)
    ·have hb2:mj.born=e.born:=by
      simp only [Array.contains_eq_mem,decide_eq_true_eq,Array.mem_push] at hs hc
      rcases hs with hs|hs
      ·exact absurd hs hc
      ·exact hs
     have hij:j=i:=by
      obtain ⟨hjl,hje⟩:=List.getElem?_eq_some_iff.1 hmj
      have hp:=List.pairwise_iff_getElem.1 hRM.born
      rcases Nat.lt_trichotomy j i with h|h|h
      ·have:=hp j i (by simpa using hjl) (by simpa using hi) h
       simp only [List.getElem_map] at this
       rw [hje,hie] at this
       omega
      ·exact h
      ·have:=hp i j (by simpa using hi) (by simpa using hjl) h
       simp only [List.getElem_map] at this
       rw [hje,hie] at this
       omega
     subst hij
     rw [hgi] at hj
     cases hj
     simp
def fgL (s1:S):List (Nat × PV) → Prop
 | []=>True
 | (i,q) :: t=>s1.get i=some q∧fgL s1 t
theorem fgL_look {s1:S}:∀ {t:List (Nat × PV)} {i:Nat} {q:PV},fgL s1 t → look t i=some q → s1.get i=some q
 | [],i,q,_,h=>by cases h
 | (j,r) :: t,i,q,hf,h=>by
  rw [look] at h
  split at h
  ·rename_i e;subst e;cases h;exact hf.1
  ·exact fgL_look hf.2 h
theorem forgets_of {s1 s2:S} (ho:s2.o=s1.o) (h:fgL s1 s2.t):Forgets s1 s2:=⟨ho,fun _ _ hq=>fgL_look h hq⟩
theorem dsts_ne {l:List Oper} {i:Nat} (h:(l.all fun o=>decide (o.dst≠some i))=true):∀ o ∈ l,o.dst≠some i:=fun o ho=>of_decide_eq_true (List.all_eq_true.1 h o ho)
end Go.Proofs.YthconflkbeipoaaGreatDoor
