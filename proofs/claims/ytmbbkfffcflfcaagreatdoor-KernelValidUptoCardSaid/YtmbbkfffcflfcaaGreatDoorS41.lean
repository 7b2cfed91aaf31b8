/- What the program computes, and the plain laws of it, part 41. -/
import Derived.WideKeyEntry
import Derived.Lib.ItoaNum
import Derived.Test.YtmbbkfffcflfcaaGreatDoorS40
namespace Go.Proofs.YtmbbkfffcflfcaaGreatDoor
attribute [local irreducible] PL QL PWPr PCalls Weak RetK Kontr PA
open Go.RowKit
open IntWalk renaming iteOmega → O, toNatUp → U
set_option linter.unusedVariables false
set_option linter.unusedSimpArgs false
set_option maxRecDepth 20000
set_option maxHeartbeats 1000000 in
theorem concat_pure (A B:List Atr) (hA:A.length≤1000000) (hB:B.length≤1000000) :
  PCalls Tryz.prog 184 [.c (.sl 1 [[D.sl 2 (A.map Atr.d)],[D.sl 2 (B.map Atr.d)]])] [] fun r os=>r = .c (.own 0 ((A++B).length))∧os=[.arr 97 2 ((A++B).map Atr.d)]:=by
 refine pcalls_of Tryz.func184 rfl (by simp [Tryz.ntmps184]) ?_
 rw [Tryz.ntmps184,Tryz.results184]
 push_cast [O,U]
 have cB:CutB 12 [25,26,27]:=trivial
 repeat' ((first|refine pC ?_|refine pQC ?_|refine pU ?_|refine pif ?_ ?_<;>intro h<;>try exact pN h)<;>push_cast [O,U])
 (apply pwp_loop3 (α:=Nat) 12 [25,26,27] (fun k=>[(11,.c (.v (.int .i64 k))),(3,.c (.v (.int .i64 (if k=0 then 0 else if k=1 then (A.length:Int) else A.length+B.length))))]) (fun k=>[]) (fun k=>k≤2) (fun k=>2 - k) (0);(focus ((try push_cast [O,U]);rfl));(focus exact (by omega));(focus ((refine weak_fg ?_;try push_cast [O,U]))))
 intro k hk
 have h3:k=0∨k=1∨k=2:=by omega
 rcases h3 with rfl|rfl|rfl
 ·push_cast [O,U]
  repeat' ((first|refine pC ?_|refine pQC ?_|refine pU ?_|refine pif ?_ ?_<;>intro h<;>try exact pN h)<;>push_cast [O,U])
  exact ⟨1,by omega,by (refine weak_fg ?_;push_cast [O,U]),by omega⟩
 ·push_cast [O,U]
  repeat' ((first|refine pC ?_|refine pQC ?_|refine pU ?_|refine pif ?_ ?_<;>intro h<;>try exact pN h)<;>push_cast [O,U])
  exact ⟨2,by omega,by (refine weak_fg ?_;push_cast [O,U]),by omega⟩
 ·have hg:=grow_pure (A.length+B.length) (by omega)
  push_cast [O,U]
  repeat' ((first|refine plE [] hg ?_ ?_|refine pC ?_|refine pQC ?_|refine pU ?_|refine pif ?_ ?_<;>intro h<;>try exact pN h)<;>push_cast [O,U])
  (apply pwp_loop3 (α:=Nat) 12 [25,26,27] (fun k=>[(27,.c (.v (.int .i64 k))),(6,.c (.own 0 (if k=0 then 0 else if k=1 then A.length else A.length+B.length)))]) (fun k=>[(0,.arr 97 2 (if k=0 then [] else if k=1 then A.map Atr.d else (A++B).map Atr.d))]) (fun k=>k≤2) (fun k=>2 - k) (0);(focus ((try push_cast [O,U]);rfl));(focus exact (by omega));(focus ((refine weak_fg ?_;try push_cast [O,U]))))
  intro k hk
  have h3:k=0∨k=1∨k=2:=by omega
  rcases h3 with rfl|rfl|rfl
  ·push_cast [O,U]
   repeat' ((first|refine pC ?_|refine pQC ?_|refine pU ?_|refine pif ?_ ?_<;>intro h<;>try exact pN h)<;>push_cast [O,U])
   exact ⟨1,by omega,by (refine weak_fg ?_;push_cast [O,U]),by omega⟩
  ·push_cast [O,U]
   repeat' ((first|refine pC ?_|refine pQC ?_|refine pU ?_|refine pif ?_ ?_<;>intro h<;>try exact pN h)<;>push_cast [O,U])
   exact ⟨2,by omega,by (refine weak_fg ?_;push_cast [O,U]),by omega⟩
  ·push_cast [O,U]
   repeat' ((first|refine pC ?_|refine pQC ?_|refine pU ?_|refine pif ?_ ?_<;>intro h<;>try exact pN h)<;>push_cast [O,U])
   (refine retK_of [0] ?_;push_cast [O,U])
set_option maxRecDepth 20000
theorem getM_skip {n:ByteArray} {b:List Atr}:∀ {a:List Atr},(∀ y ∈ a,y.name≠n) → getM (a++b) n=getM b n
 | [],_=>rfl
 | x :: a,h=>by rw [List.cons_append,getM_cons,if_neg (h x (by simp)),getM_skip fun y hy=>h y (by simp [hy])]
theorem getM_at {l:List Atr} {n:ByteArray} {k:Nat} (hk:k < l.length) (h0:∀ y ∈ l.take k,y.name≠n) (h:(l.getD k default).name=n):getM l n=((l.getD k default).value,true):=by
 have e:l=l.take k++l[k] :: l.drop (k+1):=by rw [← List.drop_eq_getElem_cons hk,List.take_append_drop]
 rw [getD_lt l hk] at *
 conv=>lhs;rw [e]
 rw [getM_skip h0,getM_cons,if_pos h]
theorem name_next {l:List Atr} {n:ByteArray} {k:Nat} (hk:k < l.length) (h0:∀ y ∈ l.take k,y.name≠n) (h:¬ (l.getD k default).name=n):∀ y ∈ l.take (k+1),y.name≠n:=by
 intro y hy
 rw [List.take_succ_eq_append_getElem hk,List.mem_append,List.mem_singleton] at hy
 rcases hy with hy|hy
 ·exact h0 y hy
 ·rw [hy,← getD_lt l hk];exact h
set_option maxHeartbeats 1000000 in
theorem get_pure (l:List Atr) (n:ByteArray) (hl:l.length≤9223372036854775807) :
  PCalls Tryz.prog 145 [.c (.sl 2 (l.map Atr.d)),.c (.v (.string n))] [] fun r os=>r = .two (.c (.v (.string ((getM l n).1)))) (.c (.v (.bool ((getM l n).2))))∧os=[]:=by
 refine pcalls_of Tryz.func145 rfl (by simp [Tryz.ntmps145]) ?_
 rw [Tryz.ntmps145,Tryz.results145]
 push_cast [O,U]
 have cB:CutB 8 [8,9,10]:=trivial
 repeat' ((first|refine pC ?_|refine pQC ?_|refine pU ?_|refine pif ?_ ?_<;>intro h<;>try exact pN h)<;>push_cast [O,U])
 (apply pwp_loop3 (α:=Nat) 8 [8,9,10] (fun k=>[(10,.c (.v (.int .i64 k)))]) (fun k=>[]) (fun k=>k≤l.length∧∀ y ∈ l.take k,y.name≠n) (fun k=>l.length - k) (0);(focus ((try push_cast [O,U]);rfl));(focus exact ⟨by omega,by simp⟩);(focus ((refine weak_fg ?_;try push_cast [O,U]))))
 rintro k ⟨hk,h0⟩
 push_cast [O,U]
 by_cases hlt:k < l.length
 ·by_cases hn:(l.getD k default).name=n
  ·have hg:=getM_at hlt h0 hn
   have hn':=eq_true hn
   repeat' ((first|refine pC ?_|refine pQC ?_|refine pU ?_|refine pif ?_ ?_<;>intro h<;>try exact pN h)<;>push_cast [O,U,hn'])
   (refine retK_of [] ?_;push_cast [O,U,hg])
  ·have h1:=name_next hlt h0 hn
   repeat' ((first|refine pC ?_|refine pQC ?_|refine pU ?_|refine pif ?_ ?_<;>intro h<;>try exact pN h)<;>push_cast [O,U,hn])
   exact ⟨k+1,⟨by omega,h1⟩,by (refine weak_fg ?_;push_cast [O,U]),by omega⟩
 ·rw [List.take_of_length_le (by omega)] at h0
  have hg:=getM_none h0
  repeat' ((first|refine pC ?_|refine pQC ?_|refine pU ?_|refine pif ?_ ?_<;>intro h<;>try exact pN h)<;>push_cast [O,U])
  (refine retK_of [] ?_;push_cast [O,U,hg])
theorem cmpat_pure (x:Atr) (n:ByteArray) :
  PCalls Tryz.prog 182 [.agg (x.d.map D.e),.c (.v (.string n))] [] fun r os=>r = .c (.v (.int .i64 (cmpS x.name n)))∧os=[]:=by
 have hc:=scmp_pure x.name n
 refine pcalls_of Tryz.func182 rfl (by simp [Tryz.ntmps182]) ?_
 rw [Tryz.ntmps182,Tryz.results182]
 push_cast [O,U]
 have cB:CutB 5 []:=trivial
 repeat' ((first|refine plE [] hc ?_ ?_|refine pC ?_|refine pQC ?_|refine pU ?_|refine pif ?_ ?_<;>intro h<;>try exact pN h)<;>push_cast [O,U])
 (refine retK_of [] ?_;push_cast [O,U])
theorem hit_eq {l:List Atr} {n:ByteArray} {i:Nat} (hp:pos l n=i):hit l n=(decide (i < l.length) && decide ((l.getD i default).name=n)):=by
 unfold hit
 rw [hp]
 by_cases h:i < l.length
 ·rw [List.getElem?_eq_getElem h,getD_lt l h,decide_eq_true h];rfl
 ·rw [List.getElem?_eq_none (by omega),decide_eq_false h];rfl
set_option maxHeartbeats 2000000 in
theorem bsat_pure (l:List Atr) (n:ByteArray) (hl:l.length≤1000000000) (hu:l.Pairwise Up) :
  PCalls Tryz.prog 181 [.c (.sl 2 (l.map Atr.d)),.c (.v (.string n)),.c (.fn (.func 182) [] [])] [] fun r os=>r = .two (.c (.v (.int .i64 (pos l n)))) (.c (.v (.bool (hit l n))))∧os=[]:=by
 refine pcalls_of Tryz.func181 rfl (by simp [Tryz.ntmps181]) ?_
 rw [Tryz.ntmps181,Tryz.results181]
 push_cast [O,U]
 have cB:CutB 12 []:=trivial
 repeat' ((first|refine pC ?_|refine pQC ?_|refine pU ?_|refine pif ?_ ?_<;>intro h<;>try exact pN h)<;>push_cast [O,U])
 (apply pwp_loop3 (α:=Nat × Nat) 12 [] (fun z=>[(9,.c (.v (.int .i64 z.1))),(10,.c (.v (.int .i64 z.2)))]) (fun z=>[]) (fun z=>z.1≤z.2∧z.2≤l.length∧(∀ y ∈ l.take z.1,bless y.name n=true)∧∀ y ∈ l.drop z.2,bless y.name n=false) (fun z=>z.2 - z.1) ((0,l.length));(focus ((try push_cast [O,U]);rfl));(focus exact ⟨by simp,by simp,by simp,by simp⟩);(focus ((refine weak_fg ?_;try push_cast [O,U]))))
 rintro ⟨i,j⟩ ⟨h1,h2,h3,h4⟩
 simp only at h1 h2 h3 h4
 push_cast [O,U]
 by_cases hlt:i < j
 ·obtain ⟨md,hh⟩:∃ md,(i+j) / 2=md:=⟨_,rfl⟩
  have hh2:((i:Int)+j) / 2=(md:Int):=by omega
  have hhl:md < l.length:=by omega
  have hc:=cmpat_pure (l.getD md default) n
  have hsp:l=l.take md++l[md] :: l.drop (md+1):=by rw [← List.drop_eq_getElem_cons hhl,List.take_append_drop]
  have hsort:∀ y ∈ l.take md,Up y (l.getD md default):=by
   have hp:=hu
   rw [hsp] at hp
   intro y hy
   rw [getD_lt l hhl]
   exact (List.pairwise_append.1 hp).2.2 y hy _ List.mem_cons_self
  have hsort2:∀ y ∈ l.drop (md+1),Up (l.getD md default) y:=by
   have hp:=hu
   rw [hsp] at hp
   intro y hy
   rw [getD_lt l hhl]
   exact (List.pairwise_cons.1 (List.pairwise_append.1 hp).2.1).1 y hy
  by_cases hl2:bless (l.getD md default).name n=true
  ·have e:=eq_true (cmpS_lt.2 hl2)
   repeat' ((first|refine plE [] hc ?_ ?_|refine pC ?_|refine pQC ?_|refine pU ?_|refine pif ?_ ?_<;>intro h<;>try exact pN h)<;>push_cast [O,U,hh2,e])
   refine ⟨(md+1,j),⟨by simp only;omega,h2,fun y hy=>?_,h4⟩,by (refine weak_fg ?_;push_cast [O,U]),by simp only;omega⟩
   simp only at hy
   rw [List.take_succ_eq_append_getElem hhl] at hy
   rcases List.mem_append.1 hy with hy|hy
   ·exact bless_trans (hsort y hy) hl2
   ·rw [List.mem_singleton.1 hy,← getD_lt l hhl];exact hl2
  ·have e:¬ (cmpS (l.getD md default).name n < 0):=fun h=>hl2 (cmpS_lt.1 h)
   repeat' ((first|refine plE [] hc ?_ ?_|refine pC ?_|refine pQC ?_|refine pU ?_|refine pif ?_ ?_<;>intro h<;>try exact pN h)<;>push_cast [O,U,hh2,e])
   refine ⟨(i,md),⟨by simp only;omega,by simp only;omega,h3,fun y hy=>?_⟩,by (refine weak_fg ?_;push_cast [O,U]),by simp only;omega⟩
   simp only at hy
   rw [List.drop_eq_getElem_cons hhl] at hy
   rcases List.mem_cons.1 hy with e2|hy
   ·rw [e2,← getD_lt l hhl];simpa using hl2
   ·rcases hq:bless y.name n with _|_
    ·rfl
    ·exact absurd (bless_trans (hsort2 y hy) hq) hl2
 ·have hij:i=j:=by omega
  subst hij
  have hp:=pos_up h2 h3 h4
  have hh:=hit_eq hp
  by_cases hn:i < l.length
  ·have hc:=cmpat_pure (l.getD i default) n
   obtain ⟨b,hb⟩:∃ b,decide (cmpS (l.getD i default).name n=0)=b:=⟨_,rfl⟩
   have hb2:decide ((l.getD i default).name=n)=b:=by rw [← hb];exact decide_eq_decide.2 cmpS_eq.symm
   rw [hb2,decide_eq_true hn,Bool.true_and] at hh
   repeat' ((first|refine plE [] hc ?_ ?_|refine pC ?_|refine pQC ?_|refine pU ?_|refine pif ?_ ?_<;>intro h<;>try exact pN h)<;>push_cast [O,U,hb])
   (refine retK_of [] ?_;push_cast [O,U,hp,hh])
  ·rw [decide_eq_false hn,Bool.false_and] at hh
   repeat' ((first|refine pC ?_|refine pQC ?_|refine pU ?_|refine pif ?_ ?_<;>intro h<;>try exact pN h)<;>push_cast [O,U])
   (refine retK_of [] ?_;push_cast [O,U,hp,hh])
def appF (P:Program) (os:List Ob) (t:TypeId) (sz':Nat) (l:List (List D)) (y:Option PV):Res:=match elOf P t with
 | some (e,sz)=>match bytOf P e,srcRows os sz y with
  | some by',some ys=>if 0 < sz∧(zerOf P e).map List.length=some sz then (if sz'=sz∧(0 < ys.length∨l.length=0)∧((l.length:Int)+ys.length) * by'≤140737488355328∧(l.length:Int)+ys.length≤9223372036854775807 then .app (.c (.own os.length (l.length+ys.length))) (os++[.arr e sz (l++ys)]) none else .stop) else .stop
  | _,_=>.stop
 | none=>.stop
theorem appR_full (P:Program) (p:Nat) (os:List Ob) (t:TypeId) (sz':Nat) (l:List (List D)) (y:Option PV):appR P p os t (some (.c (.full sz' l))) y=appF P os t sz' l y:=by
 have hi:inpP P os t (some (.c (.full sz' l))) y=none:=by unfold inpP;rfl
 unfold appF appR
 rw [hi]
 unfold appP
 cases elOf P t with
 | none=>rfl
 | some es =>
  obtain ⟨e,sz⟩:=es
  dsimp only
  generalize bytOf P e=b
  generalize srcRows os sz y=ys
  generalize zerOf P e=z
  cases b<;>cases ys<;>try rfl
  dsimp only
  split
  ·split<;>rfl
  ·rfl
attribute [-push_cast] appR
attribute [push_cast] appR_full
attribute [push_cast] appF
set_option maxHeartbeats 2000000 in
theorem set_pure (l:List Atr) (n v:ByteArray) (hl:l.length≤900000) (hu:l.Pairwise Up) :
  PCalls Tryz.prog 146 [.c (.sl 2 (l.map Atr.d)),.c (.v (.string n)),.c (.v (.string v))] [] fun r os=>r = .c (.sl 2 ((insM n v l).map Atr.d))∧os=[]:=by
 rw [← devSet_eq]
 unfold devSet
 have hb:=bsat_pure l n (by omega) hu
 have hpl:=pos_le l n
 have hhl:hit l n=true → pos l n < l.length:=fun h=>by
  unfold hit at h
  split at h
  ·rename_i y hy;exact (List.getElem?_eq_some_iff.1 hy).1
  ·cases h
 generalize pos l n=i at *
 generalize hit l n=f at *
 refine pcalls_of Tryz.func146 rfl (by simp [Tryz.ntmps146]) ?_
 rw [Tryz.ntmps146,Tryz.results146]
 push_cast [O,U]
 have cB:CutB 11 []:=trivial
 have hdd:l.drop (i+1)=(l.drop i).drop 1:=by rw [List.drop_drop]
 by_cases hv:v=⟨#[]⟩
 ·have hv':=eq_true hv
  cases f with
  | true =>
   have hlt:=hhl rfl
   have hc:=concat_pure (l.take i) ((l.drop i).drop 1) (by rw [List.length_take];omega) (by rw [List.length_drop,List.length_drop];omega)
   simp only [List.map_take,List.map_drop] at hc
   repeat' ((first|refine plE [] hb ?_ ?_|refine plE [] hc ?_ ?_|refine pC ?_|refine pQC ?_|refine pU ?_|refine pif ?_ ?_<;>intro h<;>try exact pN h)<;>push_cast [O,U,hv'])
   (refine retK_of [] ?_;push_cast [O,U,hv',hdd])
  | false =>
   have hc:=concat_pure (l.take i) (l.drop i) (by rw [List.length_take];omega) (by rw [List.length_drop];omega)
   simp only [List.map_take,List.map_drop] at hc
   repeat' ((first|refine plE [] hb ?_ ?_|refine plE [] hc ?_ ?_|refine pC ?_|refine pQC ?_|refine pU ?_|refine pif ?_ ?_<;>intro h<;>try exact pN h)<;>push_cast [O,U,hv'])
   (refine retK_of [] ?_;push_cast [O,U,hv'])
 ·obtain ⟨A,hA⟩:∃ A,l.take i=A:=⟨_,rfl⟩
  have hAl:A.length=i:=by rw [← hA,List.length_take];omega
  have hT:List.take i (List.map Atr.d l)=A.map Atr.d:=by rw [← hA,List.map_take]
  have hcl:(A++[(⟨n,v⟩:Atr)]).length=i+1:=by rw [List.length_append,hAl];rfl
  rw [hA]
  cases f with
  | true =>
   have hlt:=hhl rfl
   have hc:=concat_pure (A++[⟨n,v⟩]) ((l.drop i).drop 1) (by rw [hcl];omega) (by rw [List.length_drop,List.length_drop];omega)
   simp only [List.map_append,List.map_cons,List.map_nil,List.map_drop] at hc
   repeat' ((first|refine plE [] hb ?_ ?_|refine pC ?_|refine pQC ?_|refine pU ?_|refine pif ?_ ?_<;>intro h<;>try exact pN h)<;>push_cast [O,U,hv,hT])
   refine pl_weak (weak_frz 0 (by omega)) ?_
   refine pl_of_pops ?_
   push_cast [O,U]
   (refine plE [] hc ?_ ?_<;>push_cast [O,U])
   repeat' ((first|refine pC ?_|refine pQC ?_|refine pU ?_|refine pif ?_ ?_<;>intro h<;>try exact pN h)<;>push_cast [O,U,hv])
   (refine retK_of [] ?_;push_cast [O,U,hv,hdd])
   all_goals simp only [List.map_take,List.map_drop]
  | false =>
   have hc:=concat_pure (A++[⟨n,v⟩]) (l.drop i) (by rw [hcl];omega) (by rw [List.length_drop];omega)
   simp only [List.map_append,List.map_cons,List.map_nil,List.map_drop] at hc
   repeat' ((first|refine plE [] hb ?_ ?_|refine pC ?_|refine pQC ?_|refine pU ?_|refine pif ?_ ?_<;>intro h<;>try exact pN h)<;>push_cast [O,U,hv,hT])
   refine pl_weak (weak_frz 0 (by omega)) ?_
   refine pl_of_pops ?_
   push_cast [O,U]
   (refine plE [] hc ?_ ?_<;>push_cast [O,U])
   repeat' ((first|refine pC ?_|refine pQC ?_|refine pU ?_|refine pif ?_ ?_<;>intro h<;>try exact pN h)<;>push_cast [O,U,hv])
   (refine retK_of [] ?_;push_cast [O,U,hv])
   all_goals simp only [List.map_take,List.map_drop]
end Go.Proofs.YtmbbkfffcflfcaaGreatDoor
namespace Go.Proofs.YtmbbkfffcflfcaaGreatDoor
attribute [local irreducible] PL QL PWPr PCalls Weak RetK Kontr PA PCallsG
open Go.RowKit
open IntWalk renaming iteOmega → O, toNatUp → U
set_option linter.unusedVariables false
set_option linter.unusedSimpArgs false
set_option maxRecDepth 20000
structure OprOk (o:Opr):Prop where
 dev:o.dev.ok
 att:o.dev.attrs.length≤1000000000
 path:Fit o.path
 name:Fit o.name
 value:Fit o.value
theorem sorted_up {l:List Atr} (h:sortedM l=true):l.Pairwise Up:=by
 have hs:∀ j,j+1 < l.length → bless (l.getD j default).name (l.getD (j+1) default).name=true:=fun j hj=>List.all_eq_true.1 h j (List.mem_range.2 (by omega))
 rw [List.pairwise_iff_getElem]
 intro i j hi hj hij
 obtain ⟨m,rfl⟩:∃ m,j=i+1+m:=⟨j - i - 1,by omega⟩
 induction m with
 | zero =>
  have:=hs i (by omega)
  rw [getD_lt l hi,getD_lt l (by omega)] at this
  exact this
 | succ m ih =>
  have h1:=ih (by omega) (by omega)
  have h2:=hs (i+1+m) (by omega)
  rw [getD_lt l (by omega),getD_lt l (by omega)] at h2
  exact bless_trans h1 h2
theorem up_of {k:Ker} (h:KerB k) {d:Dev} (hd:d ∈ k.tree):d.attrs.Pairwise Up:=by
 have h1:=h.inv.tree.chk d hd
 unfold checkM at h1
 have e1:numsM d=true:=by cases e:numsM d with|true=>rfl|false=>rw [e] at h1;simp at h1
 rw [e1] at h1
 have e2:namedM d=true:=by cases e:namedM d with|true=>rfl|false=>rw [e] at h1;simp at h1
 rw [e2] at h1
 have e3:kindM d=true:=by cases e:kindM d with|true=>rfl|false=>rw [e] at h1;simp at h1
 rw [e3] at h1
 have e4:numberM d=true:=by cases e:numberM d with|true=>rfl|false=>rw [e] at h1;simp at h1
 rw [e4] at h1
 simp only [Bool.not_true,Bool.false_eq_true,if_false] at h1
 have e5:¬ 24 < d.attrs.length:=fun e=>by rw [if_pos e] at h1;cases h1
 rw [if_neg e5] at h1
 have e6:attrsB d.attrs=true:=by cases e:attrsB d.attrs with|true=>rfl|false=>rw [e] at h1;simp at h1
 simp only [attrsB,Bool.and_eq_true] at e6
 exact sorted_up e6.1
theorem ktrig_pure (k:Ker) (op:Opr) (d:Dev) (hB:KerB k) (hn:k.evs.length+1≤1000000) :
  PCallsG 1 Tryz.prog 99 [.c (.ptr 0 0),.agg op.e,.agg d.e] (kerO k) fun r os=>r = .c (.v (.int .i64 ((k.trigger d).2)))∧os=kerO (k.trigger d).1:=by
 have h1:=kev_pure k 3 d.index hB.inv.tree
 have h2:=kemit_pure k [⟨0,3,d.index,pathM k.tree d.index,⟨#[]⟩⟩] (by simp;omega)
 rw [show k.tells [⟨0,3,d.index,pathM k.tree d.index,⟨#[]⟩⟩]=k.emit 3 d.index ⟨#[]⟩ from rfl] at h2
 unfold Ker.trigger
 obtain ⟨E,hE⟩:∃ E,k.emit 3 d.index ⟨#[]⟩=E:=⟨_,rfl⟩
 rw [hE] at h2 ⊢
 refine pcalls_ofG 1 (by simp [kerO]) Tryz.func99 rfl (by simp [Tryz.ntmps99]) (by rintro r os ⟨rfl,rfl⟩;simp [kerO]) ?_
 rw [Tryz.ntmps99,Tryz.results99]
 push_cast [O,U]
 have cB:CutB 7 []:=trivial
 repeat' ((first|refine plE [0,1,2] h1 ?_ ?_|(refine plcG 1 [0,1,2] (h2) ?_ ?_;push_cast [O,U];rintro r os ⟨rfl,rfl⟩)|refine pC ?_|refine pQC ?_|refine pU ?_|refine pif ?_ ?_<;>intro h<;>try exact pN h)<;>push_cast [O,U])
 (refine retK_of [0,1,2] ?_;push_cast [O,U])
theorem kbind_pure (k:Ker) (op:Opr) (d:Dev) (hB:KerB k) (ho:OprOk op) (hd:d ∈ k.tree) (hn:k.evs.length+1≤1000000) :
  PCallsG 1 Tryz.prog 101 [.c (.ptr 0 0),.agg op.e,.agg d.e] (kerO k) fun r os=>r = .c (.v (.int .i64 ((k.bind d op.value).2)))∧os=kerO (k.bind d op.value).1:=by
 have hv:=valid_pure op.value ho.value
 have hdr:=kdrv_pure k d op.value hB (hB.ok hd) (by have:=hB.orig d hd;omega) (hB.att d hd) ho.value hn
 unfold Ker.bind
 refine pcalls_ofG 1 (by simp [kerO]) Tryz.func101 rfl (by simp [Tryz.ntmps101]) (by rintro r os ⟨rfl,rfl⟩;simp [kerO]) ?_
 rw [Tryz.ntmps101,Tryz.results101]
 push_cast [O,U]
 have cB:CutB 8 [11]:=trivial
 by_cases h0:d.driver=⟨#[]⟩
 case neg =>
  rw [if_pos h0]
  repeat' ((first|refine pC ?_|refine pQC ?_|refine pU ?_|refine pif ?_ ?_<;>intro h<;>try exact pN h)<;>push_cast [O,U,h0])
  (refine retK_of [0,1,2] ?_;push_cast [O,U])
 rw [if_neg (fun h=>h h0)]
 cases hvv:validS op.value with
 | false =>
  rw [hvv] at hv
  repeat' ((first|refine plE [] hv ?_ ?_|refine pC ?_|refine pQC ?_|refine pU ?_|refine pif ?_ ?_<;>intro h<;>try exact pN h)<;>push_cast [O,U,h0])
  (refine retK_of [0,1,2] ?_;push_cast [O,U])
 | true =>
  rw [hvv] at hv
  obtain ⟨X,hX⟩:∃ X,k.drive d op.value=X:=⟨_,rfl⟩
  rw [hX] at hdr ⊢
  repeat' ((first|refine plE [] hv ?_ ?_|(refine plcG 1 [0,1,2] (hdr) ?_ ?_;push_cast [O,U,h0];rintro r os ⟨rfl,rfl⟩)|refine pC ?_|refine pQC ?_|refine pU ?_|refine pif ?_ ?_<;>intro h<;>try exact pN h)<;>push_cast [O,U,h0])
  (refine retK_of [0,1,2] ?_;push_cast [O,U])
theorem kunbind_pure (k:Ker) (op:Opr) (d:Dev) (hB:KerB k) (hd:d ∈ k.tree) (hn:k.evs.length+1≤1000000) :
  PCallsG 1 Tryz.prog 102 [.c (.ptr 0 0),.agg op.e,.agg d.e] (kerO k) fun r os=>r = .c (.v (.int .i64 ((k.unbind d).2)))∧os=kerO (k.unbind d).1:=by
 have hdr:=kdrv_pure k d ⟨#[]⟩ hB (hB.ok hd) (by have:=hB.orig d hd;omega) (hB.att d hd) (by decide) hn
 unfold Ker.unbind
 refine pcalls_ofG 1 (by simp [kerO]) Tryz.func102 rfl (by simp [Tryz.ntmps102]) (by rintro r os ⟨rfl,rfl⟩;simp [kerO]) ?_
 rw [Tryz.ntmps102,Tryz.results102]
 push_cast [O,U]
 have cB:CutB 7 []:=trivial
 by_cases h0:d.driver=⟨#[]⟩
 ·rw [if_pos h0]
  repeat' ((first|refine pC ?_|refine pQC ?_|refine pU ?_|refine pif ?_ ?_<;>intro h<;>try exact pN h)<;>push_cast [O,U,h0])
  (refine retK_of [0,1,2] ?_;push_cast [O,U])
 ·rw [if_neg h0]
  obtain ⟨X,hX⟩:∃ X,k.drive d ⟨#[]⟩=X:=⟨_,rfl⟩
  rw [hX] at hdr ⊢
  repeat' ((first|(refine plcG 1 [0,1,2] (hdr) ?_ ?_;push_cast [O,U,h0];rintro r os ⟨rfl,rfl⟩)|refine pC ?_|refine pQC ?_|refine pU ?_|refine pif ?_ ?_<;>intro h<;>try exact pN h)<;>push_cast [O,U,h0])
  (refine retK_of [0,1,2] ?_;push_cast [O,U])
end Go.Proofs.YtmbbkfffcflfcaaGreatDoor
