/- What the program computes, and the plain laws of it, part 32. -/
import Derived.Lib.ItoaNum
import Derived.WideKeyEntry
import Derived.Test.YtmbbkfffcflfcaaGreatDoorT31
namespace Go.Proofs.YtmbbkfffcflfcaaGreatDoor
open Go.Proofs.Tryz
set_option linter.unusedSimpArgs false
set_option linter.unusedVariables false
attribute [local irreducible] PL QL aL ah bg La aV PA
open Go.RowKit
open IntWalk renaming iteOmega → O, toNatUp → U
set_option maxRecDepth 20000
theorem k5 (n lo hi:Int):ah prog 110 [.c (.v (.int .i64 n)),.c (.v (.int .i64 lo)),.c (.v (.int .i64 hi))] [] fun r os=>r = .c (.v (.bool (decide (lo≤n) && decide (n≤hi))))∧os=[]:=by
 refine aw func110 ntmps110 results110 ?_;by_cases h:lo≤n
 ·push_cast [O,U];repeat' ((first|refine au ?_|refine pif ?_ ?_<;>intro h<;>try exact pN h)<;>push_cast [O,U,h])
  (refine K9 [] ?_;push_cast [O,U]);all_goals simp [h]
 ·push_cast [O,U];repeat' ((first|refine au ?_|refine pif ?_ ?_<;>intro h<;>try exact pN h)<;>push_cast [O,U,h])
  (refine K9 [] ?_;push_cast [O,U]);all_goals simp [h]
set_option maxHeartbeats 1000000 in
theorem xq (d:Dev):ah prog 113 [.agg d.e] [] fun r os=>r = .c (.v (.bool (numberM d)))∧os=[]:=by
 have hn:=lV d.kind;have hw:=k5 d.number 1 1073741824;unfold numberM;have e:hasN d=(decide (d.kind=2) || decide (d.kind=3)):=rfl;obtain ⟨b,hb⟩:∃ b,(decide (d.kind=2) || decide (d.kind=3))=b:=⟨_,rfl⟩
 rw [e,hb];rw [hb] at hn;refine aw func113 ntmps113 results113 ?_;cases b
 ·push_cast [O,U];repeat' ((first|refine aK [] hn ?_|refine au ?_|refine pif ?_ ?_<;>intro h<;>try exact pN h)<;>push_cast [O,U])
  exact am []
 ·push_cast [O,U];repeat' ((first|refine aK [] hn ?_|refine aK [] hw ?_|refine au ?_|refine pif ?_ ?_<;>intro h<;>try exact pN h)<;>push_cast [O,U])
  exact am []
set_option maxHeartbeats 1000000 in
theorem Cc (d:Dev) (hk:d.ok):ah prog 112 [.agg d.e] [] fun r os=>r = .c (.v (.bool (kindM d)))∧os=[]:=by
 have h1:=rQ d.name hk.name;have h2:=rQ d.original hk.original;unfold kindM;refine aw func112 ntmps112 results112 ?_;by_cases e4:d.kind=4
 ·have e4':=eq_true e4;rw [if_pos e4];obtain ⟨b,hb⟩:∃ b,gV d.name=b:=⟨_,rfl⟩
  rw [hb] at h1 ⊢;cases b
  ·push_cast [O,U];repeat' ((first|(refine plE [] h1 ?_ ?_;focus (push_cast [O,U,e4'];done))|refine au ?_|refine pif ?_ ?_<;>intro h<;>try exact pN h)<;>push_cast [O,U,e4'])
   exact am []
  ·push_cast [O,U];repeat' ((first|refine plE [] h1 ?_ ?_;focus (push_cast [O,U,e4'];done)|refine plE [] h2 ?_ ?_;focus (push_cast [O,U,e4'];done)|refine au ?_|refine pif ?_ ?_<;>intro h<;>try exact pN h)<;>push_cast [O,U,e4'])
   exact am []
 ·rw [if_neg e4];by_cases e1:d.kind=1
  ·have e1':=eq_true e1;push_cast [O,U];repeat' ((first|refine au ?_|refine pif ?_ ?_<;>intro h<;>try exact pN h)<;>push_cast [O,U,e4,e1'])
   (refine K9 [] ?_;push_cast [O,U]);all_goals simp [e1]
  ·by_cases e2:d.kind=2
   ·have e2':=eq_true e2;push_cast [O,U];repeat' ((first|refine au ?_|refine pif ?_ ?_<;>intro h<;>try exact pN h)<;>push_cast [O,U,e4,e1,e2'])
    (refine K9 [] ?_;push_cast [O,U]);all_goals simp [e2]
   ·by_cases e3:d.kind=3
    ·have e3':=eq_true e3;push_cast [O,U];repeat' ((first|refine au ?_|refine pif ?_ ?_<;>intro h<;>try exact pN h)<;>push_cast [O,U,e4,e1,e2,e3'])
     (refine K9 [] ?_;push_cast [O,U]);all_goals simp [e3]
    ·have ef:(decide (1≤d.kind) && decide (d.kind≤3))=false:=by
      rw [Bool.and_eq_false_iff,decide_eq_false_iff_not,decide_eq_false_iff_not];omega
     push_cast [O,U];repeat' ((first|refine au ?_|refine pif ?_ ?_<;>intro h<;>try exact pN h)<;>push_cast [O,U,e4,e1,e2,e3])
     (refine K9 [] ?_;push_cast [O,U]);all_goals simp [ef]
set_option maxHeartbeats 2000000 in
theorem zf (d:Dev) (hk:d.ok):ah prog 111 [.agg d.e] [] fun r os=>r = .c (.v (.bool (namedM d)))∧os=[]:=by
 have h1:=dt d.name hk.name;have h2:=dt d.original hk.original;have h3:=dt d.subsystem hk.subsystem;have h4:=dt d.driver hk.driver;have h5:=ou d.alias_ hk.alias_;unfold namedM;refine aw func111 ntmps111 results111 ?_;obtain ⟨b1,hb1⟩:∃ b,validS d.name=b:=⟨_,rfl⟩
 obtain ⟨b2,hb2⟩:∃ b,validS d.original=b:=⟨_,rfl⟩
 obtain ⟨b3,hb3⟩:∃ b,validS d.subsystem=b:=⟨_,rfl⟩
 obtain ⟨b4,hb4⟩:∃ b,validS d.driver=b:=⟨_,rfl⟩
 rw [hb1] at h1 ⊢;rw [hb2] at h2 ⊢;rw [hb3] at h3 ⊢;rw [hb4] at h4 ⊢;cases b1
 ·push_cast [O,U];repeat' ((first|refine aK [] h1 ?_|refine au ?_|refine pif ?_ ?_<;>intro h<;>try exact pN h)<;>push_cast [O,U])
  exact am []
 cases b2
 ·push_cast [O,U];repeat' ((first|refine aK [] h1 ?_|refine aK [] h2 ?_|refine au ?_|refine pif ?_ ?_<;>intro h<;>try exact pN h)<;>push_cast [O,U])
  exact am []
 cases b3
 ·push_cast [O,U];repeat' ((first|refine aK [] h1 ?_|refine aK [] h2 ?_|refine aK [] h3 ?_|refine au ?_|refine pif ?_ ?_<;>intro h<;>try exact pN h)<;>push_cast [O,U])
  exact am []
 by_cases e:d.driver=⟨#[]⟩
 ·have e':=eq_true e;push_cast [O,U];repeat' ((first|refine plE [] h1 ?_ ?_;focus (push_cast [O,U,e'];done)|refine plE [] h2 ?_ ?_;focus (push_cast [O,U,e'];done)|refine plE [] h3 ?_ ?_;focus (push_cast [O,U,e'];done)|refine plE [] h5 ?_ ?_;focus (push_cast [O,U,e'];done)|refine au ?_|refine pif ?_ ?_<;>intro h<;>try exact pN h)<;>push_cast [O,U,e'])
  (refine K9 [] ?_;push_cast [O,U]);all_goals simp [e]
 cases b4
 ·push_cast [O,U];repeat' ((first|refine plE [] h1 ?_ ?_;focus (push_cast [O,U,e];done)|refine plE [] h2 ?_ ?_;focus (push_cast [O,U,e];done)|refine plE [] h3 ?_ ?_;focus (push_cast [O,U,e];done)|refine plE [] h4 ?_ ?_;focus (push_cast [O,U,e];done)|refine au ?_|refine pif ?_ ?_<;>intro h<;>try exact pN h)<;>push_cast [O,U,e])
  (refine K9 [] ?_;push_cast [O,U]);all_goals simp [e]
 ·push_cast [O,U];repeat' ((first|refine plE [] h1 ?_ ?_;focus (push_cast [O,U,e];done)|refine plE [] h2 ?_ ?_;focus (push_cast [O,U,e];done)|refine plE [] h3 ?_ ?_;focus (push_cast [O,U,e];done)|refine plE [] h4 ?_ ?_;focus (push_cast [O,U,e];done)|refine plE [] h5 ?_ ?_;focus (push_cast [O,U,e];done)|refine au ?_|refine pif ?_ ?_<;>intro h<;>try exact pN h)<;>push_cast [O,U,e])
  (refine K9 [] ?_;push_cast [O,U]);all_goals simp [e]
set_option maxHeartbeats 1000000 in
theorem xr (l:List Atr) (hl:l.length≤9223372036854775807):ah prog 155 [.c (.sl 2 (l.map Atr.d))] [] fun r os=>r = .c (.v (.bool (iC l)))∧os=[]:=by
 refine aw func155 ntmps155 results155 ?_;push_cast [O,U];have cB:aH 4 []:=trivial;repeat' ((first|refine ae ?_|refine pif ?_ ?_<;>intro h<;>try exact pN h)<;>push_cast [O,U])
 (apply ap (α:=Nat) 4 [] (fun k=>[(3,.c (.v (.int .i64 ((k:Int)+1))))]) (fun k=>[]) (fun k=>(l.length=0∨k+1≤l.length)∧k≤l.length∧∀ j,j < k → bh (l.getD j default).name (l.getD (j+1) default).name=true) (fun k=>l.length - k) (0);(focus ((try push_cast [O,U]);rfl));(focus exact ⟨ac,ac,ac⟩);(focus ((refine weak_fg ?_;try push_cast [O,U]))));rintro k ⟨hk0,hk,ha⟩;push_cast [O,U];by_cases hlt:k+1 < l.length
 ·cases hv:bh (l.getD k default).name (l.getD (k+1) default).name
  ·have e:=wV hlt hv;repeat' ((first|refine ae ?_|refine pif ?_ ?_<;>intro h<;>try exact pN h)<;>push_cast [O,U,hv])
   (refine K9 [] ?_;push_cast [O,U]);all_goals rw [e]
  ·have e:=pz ha hv;repeat' ((first|refine ae ?_|refine pif ?_ ?_<;>intro h<;>try exact pN h)<;>push_cast [O,U,hv])
   exact ⟨k+1,⟨ac,ac,e⟩,aA,ac⟩
 ·have e:=wU (k:=k) ac ha;repeat' ((first|refine ae ?_|refine pif ?_ ?_<;>intro h<;>try exact pN h)<;>push_cast [O,U])
  (refine K9 [] ?_;push_cast [O,U]);all_goals rw [e]
set_option maxHeartbeats 1000000 in
theorem xt (x:Atr) (h1:Fit x.name) (h2:Fit x.value):ah prog 157 [.agg (x.d.map D.e)] [] fun r os=>r = .c (.v (.bool (!iz x)))∧os=[]:=by
 have c1:=dt x.name h1;have c2:=ou x.value h2;unfold iz;obtain ⟨b1,hb1⟩:∃ b,validS x.name=b:=⟨_,rfl⟩
 rw [hb1] at c1 ⊢;refine aw func157 ntmps157 results157 ?_;cases b1
 ·push_cast [O,U];repeat' ((first|refine aK [] c1 ?_|refine au ?_|refine pif ?_ ?_<;>intro h<;>try exact pN h)<;>push_cast [O,U])
  exact am []
 by_cases e:x.value=⟨#[]⟩
 ·have e':=eq_true e;push_cast [O,U];repeat' ((first|(refine plE [] c1 ?_ ?_;focus (push_cast [O,U,e'];done))|refine au ?_|refine pif ?_ ?_<;>intro h<;>try exact pN h)<;>push_cast [O,U,e'])
  (refine K9 [] ?_;push_cast [O,U]);all_goals simp [e]
 ·push_cast [O,U];repeat' ((first|(refine plE [] c1 ?_ ?_;focus (push_cast [O,U,e];done))|(refine plE [] c2 ?_ ?_;focus (push_cast [O,U,e];done))|refine au ?_|refine pif ?_ ?_<;>intro h<;>try exact pN h)<;>push_cast [O,U,e])
  (refine K9 [] ?_;push_cast [O,U]);all_goals simp [e]
set_option maxHeartbeats 1000000 in
theorem pX (l:List Atr) (hl:l.length≤1000000000) (ho:okA l):ah prog 114 [.c (.sl 2 (l.map Atr.d))] [] fun r os=>r = .c (.v (.bool (attrsB l)))∧os=[]:=by
 have h1:=xr l ac;have h2:=mA l hl 157 [] [] (fun x=>!iz x) ⟨aj,fun x hx=>xt x (ho x hx).1 (ho x hx).2⟩;have e:(!(l.any fun x=>!iz x))=l.all iz:=by rw [List.all_eq_not_any_not]
 obtain ⟨b,hb⟩:∃ b,(l.any fun x=>!iz x)=b:=⟨_,rfl⟩
 unfold attrsB;rw [hb] at h2 e;rw [← e];obtain ⟨c,hc⟩:∃ c,iC l=c:=⟨_,rfl⟩
 rw [hc] at h1 ⊢;refine aw func114 ntmps114 results114 ?_;cases c
 ·push_cast [O,U];repeat' ((first|refine aK [] h1 ?_|refine au ?_|refine pif ?_ ?_<;>intro h<;>try exact pN h)<;>push_cast [O,U])
  exact am []
 ·push_cast [O,U];repeat' ((first|refine aK [] h1 ?_|refine aK [] h2 ?_|refine au ?_|refine pif ?_ ?_<;>intro h<;>try exact pN h)<;>push_cast [O,U])
  exact am []
set_option maxHeartbeats 4000000 in
theorem rS (d:Dev) (hk:d.ok):ah prog 65 [.agg d.e] [] fun r os=>r = .c (.v (.int .i64 (aS d)))∧os=[]:=by
 have w1:=k5 d.index 1 1073741824;have w2:=k5 d.parent 0 1073741824;have nm:=zf d hk;have kd:=Cc d hk;have nb:=xq d;have nd:=oN d hk.orig;have lk:=B9 (bq d);unfold aS dI;have hnm:hasN d=true → bq d=m9 d.original:=fun h=>by unfold bq;rw [if_pos h]
 refine aw func65 ntmps65 results65 ?_;generalize (decide (1≤d.index) && decide (d.index≤1073741824))=c1 at w1 ⊢;generalize (decide (0≤d.parent) && decide (d.parent≤1073741824))=c2 at w2 ⊢;generalize namedM d=c3 at nm ⊢;generalize kindM d=c4 at kd ⊢;generalize numberM d=c5 at nb ⊢;cases c1
 case false =>
  push_cast [O,U];repeat' ((first|refine aK [] w1 ?_|refine aK [] w2 ?_|refine aK [] nm ?_|refine aK [] kd ?_|refine aK [] nb ?_|refine aK [] ab ?_|refine aK [] nd ?_|refine aK [] lk ?_|refine au ?_|refine pif ?_ ?_<;>intro h<;>try exact pN h)<;>push_cast [O,U])
  exact am []
 cases c2
 case false =>
  push_cast [O,U];repeat' ((first|refine aK [] w1 ?_|refine aK [] w2 ?_|refine aK [] nm ?_|refine aK [] kd ?_|refine aK [] nb ?_|refine aK [] ab ?_|refine aK [] nd ?_|refine aK [] lk ?_|refine au ?_|refine pif ?_ ?_<;>intro h<;>try exact pN h)<;>push_cast [O,U])
  exact am []
 by_cases e:d.parent=d.index
 ·have he:=eq_true e;push_cast [O,U];repeat' ((first|refine plE [] w1 ?_ ?_;focus (push_cast [O,U,he];done)|refine plE [] w2 ?_ ?_;focus (push_cast [O,U,he];done)|refine plE [] nm ?_ ?_;focus (push_cast [O,U,he];done)|refine plE [] kd ?_ ?_;focus (push_cast [O,U,he];done)|refine plE [] nb ?_ ?_;focus (push_cast [O,U,he];done)|refine plE [] ab ?_ ?_;focus (push_cast [O,U,he];done)|refine plE [] nd ?_ ?_;focus (push_cast [O,U,he];done)|refine plE [] lk ?_ ?_;focus (push_cast [O,U,he];done)|refine au ?_|refine pif ?_ ?_<;>intro h<;>try exact pN h)<;>push_cast [O,U,he])
  (refine K9 [] ?_;push_cast [O,U]);all_goals simp [e]
 have he:=eq_false e;rw [decide_eq_false e];cases c3
 case false =>
  push_cast [O,U];repeat' ((first|refine plE [] w1 ?_ ?_;focus (push_cast [O,U,he];done)|refine plE [] w2 ?_ ?_;focus (push_cast [O,U,he];done)|refine plE [] nm ?_ ?_;focus (push_cast [O,U,he];done)|refine plE [] kd ?_ ?_;focus (push_cast [O,U,he];done)|refine plE [] nb ?_ ?_;focus (push_cast [O,U,he];done)|refine plE [] ab ?_ ?_;focus (push_cast [O,U,he];done)|refine plE [] nd ?_ ?_;focus (push_cast [O,U,he];done)|refine plE [] lk ?_ ?_;focus (push_cast [O,U,he];done)|refine au ?_|refine pif ?_ ?_<;>intro h<;>try exact pN h)<;>push_cast [O,U,he])
  exact am []
 cases c4
 case false =>
  push_cast [O,U];repeat' ((first|refine plE [] w1 ?_ ?_;focus (push_cast [O,U,he];done)|refine plE [] w2 ?_ ?_;focus (push_cast [O,U,he];done)|refine plE [] nm ?_ ?_;focus (push_cast [O,U,he];done)|refine plE [] kd ?_ ?_;focus (push_cast [O,U,he];done)|refine plE [] nb ?_ ?_;focus (push_cast [O,U,he];done)|refine plE [] ab ?_ ?_;focus (push_cast [O,U,he];done)|refine plE [] nd ?_ ?_;focus (push_cast [O,U,he];done)|refine plE [] lk ?_ ?_;focus (push_cast [O,U,he];done)|refine au ?_|refine pif ?_ ?_<;>intro h<;>try exact pN h)<;>push_cast [O,U,he])
  exact am []
 cases c5
 case false =>
  push_cast [O,U];repeat' ((first|refine plE [] w1 ?_ ?_;focus (push_cast [O,U,he];done)|refine plE [] w2 ?_ ?_;focus (push_cast [O,U,he];done)|refine plE [] nm ?_ ?_;focus (push_cast [O,U,he];done)|refine plE [] kd ?_ ?_;focus (push_cast [O,U,he];done)|refine plE [] nb ?_ ?_;focus (push_cast [O,U,he];done)|refine plE [] ab ?_ ?_;focus (push_cast [O,U,he];done)|refine plE [] nd ?_ ?_;focus (push_cast [O,U,he];done)|refine plE [] lk ?_ ?_;focus (push_cast [O,U,he];done)|refine au ?_|refine pif ?_ ?_<;>intro h<;>try exact pN h)<;>push_cast [O,U,he])
  exact am []
 by_cases h24:24 < d.attrs.length
 ·have hl:=eq_true (show (24:Int) < (d.attrs.length:Int) by omega);push_cast [O,U];repeat' ((first|refine plE [] w1 ?_ ?_;focus (push_cast [O,U,he,hl];done)|refine plE [] w2 ?_ ?_;focus (push_cast [O,U,he,hl];done)|refine plE [] nm ?_ ?_;focus (push_cast [O,U,he,hl];done)|refine plE [] kd ?_ ?_;focus (push_cast [O,U,he,hl];done)|refine plE [] nb ?_ ?_;focus (push_cast [O,U,he,hl];done)|refine plE [] ab ?_ ?_;focus (push_cast [O,U,he,hl];done)|refine plE [] nd ?_ ?_;focus (push_cast [O,U,he,hl];done)|refine plE [] lk ?_ ?_;focus (push_cast [O,U,he,hl];done)|refine au ?_|refine pif ?_ ?_<;>intro h<;>try exact pN h)<;>push_cast [O,U,he,hl])
  (refine K9 [] ?_;push_cast [O,U]);all_goals simp [h24]
 have hl:=eq_false (show ¬ (24:Int) < (d.attrs.length:Int) by omega);have ab:=pX d.attrs ac hk.attrs;generalize attrsB d.attrs=c6 at ab ⊢;cases c6
 case false =>
  push_cast [O,U];repeat' ((first|refine plE [] w1 ?_ ?_;focus (push_cast [O,U,he,hl];done)|refine plE [] w2 ?_ ?_;focus (push_cast [O,U,he,hl];done)|refine plE [] nm ?_ ?_;focus (push_cast [O,U,he,hl];done)|refine plE [] kd ?_ ?_;focus (push_cast [O,U,he,hl];done)|refine plE [] nb ?_ ?_;focus (push_cast [O,U,he,hl];done)|refine plE [] ab ?_ ?_;focus (push_cast [O,U,he,hl];done)|refine plE [] nd ?_ ?_;focus (push_cast [O,U,he,hl];done)|refine plE [] lk ?_ ?_;focus (push_cast [O,U,he,hl];done)|refine au ?_|refine pif ?_ ?_<;>intro h<;>try exact pN h)<;>push_cast [O,U,he,hl])
  (refine K9 [] ?_;push_cast [O,U]);all_goals simp [h24]
 generalize hasN d=c7 at nd hnm ⊢;cases c7
 case false =>
  push_cast [O,U];repeat' ((first|refine plE [] w1 ?_ ?_;focus (push_cast [O,U,he,hl];done)|refine plE [] w2 ?_ ?_;focus (push_cast [O,U,he,hl];done)|refine plE [] nm ?_ ?_;focus (push_cast [O,U,he,hl];done)|refine plE [] kd ?_ ?_;focus (push_cast [O,U,he,hl];done)|refine plE [] nb ?_ ?_;focus (push_cast [O,U,he,hl];done)|refine plE [] ab ?_ ?_;focus (push_cast [O,U,he,hl];done)|refine plE [] nd ?_ ?_;focus (push_cast [O,U,he,hl];done)|refine plE [] lk ?_ ?_;focus (push_cast [O,U,he,hl];done)|refine au ?_|refine pif ?_ ?_<;>intro h<;>try exact pN h)<;>push_cast [O,U,he,hl])
  (refine K9 [] ?_;push_cast [O,U]);all_goals simp [h24]
 have e2:=hnm rfl;rw [e2] at lk nd;generalize linkS (m9 d.original)=c8 at lk ⊢;cases c8
 case false =>
  push_cast [O,U];repeat' ((first|refine plE [] w1 ?_ ?_;focus (push_cast [O,U,he,hl];done)|refine plE [] w2 ?_ ?_;focus (push_cast [O,U,he,hl];done)|refine plE [] nm ?_ ?_;focus (push_cast [O,U,he,hl];done)|refine plE [] kd ?_ ?_;focus (push_cast [O,U,he,hl];done)|refine plE [] nb ?_ ?_;focus (push_cast [O,U,he,hl];done)|refine plE [] ab ?_ ?_;focus (push_cast [O,U,he,hl];done)|refine plE [] nd ?_ ?_;focus (push_cast [O,U,he,hl];done)|refine plE [] lk ?_ ?_;focus (push_cast [O,U,he,hl];done)|refine au ?_|refine pif ?_ ?_<;>intro h<;>try exact pN h)<;>push_cast [O,U,he,hl])
  (refine K9 [] ?_;push_cast [O,U]);all_goals simp [h24]
 case true =>
  push_cast [O,U];repeat' ((first|refine plE [] w1 ?_ ?_;focus (push_cast [O,U,he,hl];done)|refine plE [] w2 ?_ ?_;focus (push_cast [O,U,he,hl];done)|refine plE [] nm ?_ ?_;focus (push_cast [O,U,he,hl];done)|refine plE [] kd ?_ ?_;focus (push_cast [O,U,he,hl];done)|refine plE [] nb ?_ ?_;focus (push_cast [O,U,he,hl];done)|refine plE [] ab ?_ ?_;focus (push_cast [O,U,he,hl];done)|refine plE [] nd ?_ ?_;focus (push_cast [O,U,he,hl];done)|refine plE [] lk ?_ ?_;focus (push_cast [O,U,he,hl];done)|refine au ?_|refine pif ?_ ?_<;>intro h<;>try exact pN h)<;>push_cast [O,U,he,hl])
  (refine K9 [] ?_;push_cast [O,U]);all_goals simp [h24]
set_option maxRecDepth 20000
theorem vj (d x:Dev):ah prog 213 [.agg x.e,.c (.ptr 0 0)] (Cb d) fun r os=>r = .c (.v (.bool (decide (x.index=d.index))))∧os=Cb d:=by
 refine aw func213 ntmps213 results213 ?_;push_cast [O,U];repeat' ((first|refine au ?_|refine pif ?_ ?_<;>intro h<;>try exact pN h)<;>push_cast [O,U])
 exact am [0]
set_option maxHeartbeats 8000000 in
theorem xu (l:List Dev) (d:Dev) (hn:(l.map Dev.index).Nodup) (hl:l.length≤1000) (hz:∀ x ∈ l,x.original.size≤100000) (ha:∀ x ∈ l,x.attrs.length≤1000000000) (hk:d.ok) (hd:d.original.size≤100000) (hda:d.attrs.length≤1000000000) :
  ah prog 176 [.agg (trE l),.agg d.e] [] fun r os=>r = .two (.agg (trE (if aR l d=0 then ed l d else []))) (.c (.v (.int .i64 (aR l d))))∧os=[]:=by
 have hix:=dX l ac 213 [0] (Cb d) (fun x=>decide (x.index=d.index)) ⟨aj,fun x _=>vj d x⟩;have hck:=rS d hk;have hcl:=nL l d ac hz hd;have hcs:=kX l ac ha;have hcp:=fm d hda;refine aw func176 ntmps176 results176 ?_;push_cast [O,U];have cB:aH 9 []:=trivial;repeat' ((first|refine ae ?_|refine pif ?_ ?_<;>intro h<;>try exact pN h)<;>push_cast [O,U])
 (refine plc [1] (hix) ?_ ?_;push_cast [O,U];rintro r os ⟨k,hix2,rfl,rfl⟩;push_cast [O,U]);rcases hix2 with ⟨rfl,hno⟩|⟨i,rfl,hi,hq,hpre⟩
 ·have hf:aG l d.index=none:=dQ.2 fun x hx=>by simpa using hno x hx
  have he:aR l d=45:=by unfold aR;rw [hf]
  repeat' ((first|refine ae ?_|refine pif ?_ ?_<;>intro h<;>try exact pN h)<;>push_cast [O,U])
  (refine K9 [] ?_;push_cast [O,U,he])
 have hq:(l.getD i default).index=d.index:=by simpa using hq
 have hm:l.getD i default ∈ l:=by rw [ai l hi];exact List.getElem_mem _
 have hf:aG l d.index=some (l.getD i default):=by rw [← hq];exact dj hn hm
 have hT:=xa hn hi hq;obtain ⟨o,ho⟩:∃ o,l.getD i default=o:=⟨_,rfl⟩
 rw [ho] at hf;have he:aR l d=if aS d≠0 then 41 else if d.parent≠o.parent∨d.original≠o.original∨d.kind≠o.kind then 42 else if ci l d=true then 44 else 0:=by unfold aR;rw [hf]
 by_cases hc:aS d=0
 case neg =>
  rw [if_pos hc] at he;repeat' ((first|(refine plE [] hck ?_ ?_;focus (push_cast [O,U,ho,hi,hc];done))|refine ae ?_|refine pif ?_ ?_<;>intro h<;>try exact pN h)<;>push_cast [O,U,ho,hi,hc])
  (refine K9 [] ?_;push_cast [O,U,he])
 rw [if_neg (fun h=>h hc)] at he;rw [hc] at hck;by_cases h1:d.parent=o.parent
 case neg =>
  rw [if_pos (.inl h1)] at he;repeat' ((first|(refine plE [] hck ?_ ?_;focus (push_cast [O,U,ho,hi,h1];done))|refine ae ?_|refine pif ?_ ?_<;>intro h<;>try exact pN h)<;>push_cast [O,U,ho,hi,h1])
  (refine K9 [] ?_;push_cast [O,U,he])
 by_cases h2:d.original=o.original
 case neg =>
  rw [if_pos (.inr (.inl h2))] at he;have h1':(o.parent≠o.parent)=False:=by simp
  have h2n:(d.original≠o.original)=True:=eq_true h2;repeat' ((first|(refine plE [] hck ?_ ?_;focus (push_cast [O,U,ho,hi,h1,h1',h2n];done))|refine ae ?_|refine pif ?_ ?_<;>intro h<;>try exact pN h)<;>push_cast [O,U,ho,hi,h1,h1',h2n])
  (refine K9 [] ?_;push_cast [O,U,he])
 have h1':(o.parent≠o.parent)=False:=by simp
 have h2':(o.original≠o.original)=False:=by simp
 have h3':(o.kind≠o.kind)=False:=by simp
 by_cases h3:d.kind=o.kind
 case neg =>
  rw [if_pos (.inr (.inr h3))] at he;repeat' ((first|(refine plE [] hck ?_ ?_;focus (push_cast [O,U,ho,hi,h1,h1',h2,h2',h3];done))|refine ae ?_|refine pif ?_ ?_<;>intro h<;>try exact pN h)<;>push_cast [O,U,ho,hi,h1,h1',h2,h2',h3])
  (refine K9 [] ?_;push_cast [O,U,he])
 rw [if_neg (fun h=>h.elim (fun h=>h h1) fun h=>h.elim (fun h=>h h2) fun h=>h h3)] at he;cases hcc:ci l d with
 | true =>
  rw [hcc] at hcl he;rw [if_pos rfl] at he;repeat' ((first|(refine plE [] hck ?_ ?_;focus (push_cast [O,U,ho,hi,h1,h1',h2,h2',h3,h3'];done))|(refine plE [] hcl ?_ ?_;focus (push_cast [O,U,ho,hi,h1,h1',h2,h2',h3,h3'];done))|refine ae ?_|refine pif ?_ ?_<;>intro h<;>try exact pN h)<;>push_cast [O,U,ho,hi,h1,h1',h2,h2',h3,h3'])
  (refine K9 [] ?_;push_cast [O,U,he])
 | false =>
  rw [hcc] at hcl he;rw [if_neg Bool.false_ne_true] at he;have hset:(l.map Dev.d).set i d.d=(l.set i d).map Dev.d:=by rw [List.map_set]
  repeat' ((first|(refine plE [] hck ?_ ?_;focus (push_cast [O,U,ho,hi,h1,h1',h2,h2',h3,h3'];done))|(refine plE [] hcl ?_ ?_;focus (push_cast [O,U,ho,hi,h1,h1',h2,h2',h3,h3'];done))|(refine plE [] hcs ?_ ?_;focus (push_cast [O,U,ho,hi,h1,h1',h2,h2',h3,h3'];done))|(refine plE [] hcp ?_ ?_;focus (push_cast [O,U,ho,hi,h1,h1',h2,h2',h3,h3'];done))|refine ae ?_|refine pif ?_ ?_<;>intro h<;>try exact pN h)<;>push_cast [O,U,ho,hi,h1,h1',h2,h2',h3,h3'])
  (refine K9 [] ?_;push_cast [O,U,he,hT]);rw [h1,h2,h3]
end Go.Proofs.YtmbbkfffcflfcaaGreatDoor
