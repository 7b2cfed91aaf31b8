/- What the program computes, and the plain laws of it, part 23. -/
import Derived.WideKeyEntry
import Derived.Lib.ItoaNum
import Derived.Test.YthhfpcbpiphfiaaGreatDoorR22
namespace Go.Proofs.YthhfpcbpiphfiaaGreatDoor
open Go.RowKit
open IntWalk renaming iteOmega → iO, toNatUp → tN
set_option linter.unusedVariables false
set_option linter.unusedSimpArgs false
section
variable {P:Program} {N p:Nat} {ops:Array Oper} {rest:List Oper} {o:Oper} {s:S} {K:S → Prop}
theorem pl_same {q:PV} (hg:gd ops s o.guard=some true) (h:∀ Γ a w,Inv N Γ s a w → ∃ y,RP w Γ q y∧∀ w',Same w w' → (execOp a.eval o).run P w' = .ok (.value y) w') (hd:dstOk N o.dst) (hr:PL P N p ops rest (s.put o.dst q) K):PL P N p ops (o :: rest) s K:=by
 intro Γ a w Q hA hK
 obtain ⟨y,h1,h2⟩:=h Γ a w hA.inv
 unfold wpListIn
 rw [if_pos (gd_ok hg hA.inv)]
 exact wpIn_run (h2 w (Same.refl w)) (hr Γ _ w Q ⟨hA.inv.put (dst_lt hd) h1,hA.le⟩ fun s' Γ'' a' w'' hk ha hg' hd'=>hK s' Γ'' a' w'' hk ha hg' (hd'.trans (put_defers _ _ _)))
end
end Go.Proofs.YthhfpcbpiphfiaaGreatDoor
namespace Go.Proofs.YthhfpcbpiphfiaaGreatDoor
attribute [local irreducible] PL QL PWPr PCalls Weak RetK Kontr PA
open Go.RowKit
open IntWalk renaming iteOmega → iO, toNatUp → tN
set_option linter.unusedVariables false
set_option linter.unusedSimpArgs false
set_option maxRecDepth 20000
end Go.Proofs.YthhfpcbpiphfiaaGreatDoor
namespace Go.Proofs.YthhfpcbpiphfiaaGreatDoor
open Go.RowKit
open IntWalk renaming iteOmega → iO, toNatUp → tN
set_option linter.unusedVariables false
set_option linter.unusedSimpArgs false
structure Ihb where
 id:Int
 who:ByteArray
 pat:ByteArray
 till:Int
 deriving DecidableEq,Inhabited
structure Req where
 path:ByteArray
 index:Int
 asked:Int
 deriving DecidableEq,Inhabited
structure Inh where
 next:Int
 list:List Ihb
 reqs:List Req
 deriving DecidableEq,Inhabited
end Go.Proofs.YthhfpcbpiphfiaaGreatDoor
namespace Go.Proofs.YthhfpcbpiphfiaaGreatDoor
attribute [local irreducible] PL QL PWPr PCalls Weak RetK Kontr PA
open Go.RowKit
open IntWalk renaming iteOmega → iO, toNatUp → tN
set_option linter.unusedVariables false
set_option linter.unusedSimpArgs false
set_option maxRecDepth 20000
set_option maxRecDepth 20000
set_option maxRecDepth 20000
set_option maxRecDepth 20000
set_option maxRecDepth 20000
end Go.Proofs.YthhfpcbpiphfiaaGreatDoor
namespace Go.Proofs.YthhfpcbpiphfiaaGreatDoor
open Go.RowKit
open IntWalk renaming iteOmega → iO, toNatUp → tN
set_option linter.unusedVariables false
set_option linter.unusedSimpArgs false
def ks1:Inh:=⟨1,[],[]⟩
end Go.Proofs.YthhfpcbpiphfiaaGreatDoor
namespace Go.Proofs.YthhfpcbpiphfiaaGreatDoor
attribute [local irreducible] PL QL PWPr PCalls Weak RetK Kontr PA
open Go.RowKit
open IntWalk renaming iteOmega → iO, toNatUp → tN
set_option linter.unusedVariables false
set_option linter.unusedSimpArgs false
set_option maxRecDepth 20000
end Go.Proofs.YthhfpcbpiphfiaaGreatDoor
namespace Go.Proofs.YthhfpcbpiphfiaaGreatDoor
open Go.RowKit
open IntWalk renaming iteOmega → iO, toNatUp → tN
set_option linter.unusedVariables false
set_option linter.unusedSimpArgs false
structure Acc where
 path:ByteArray
 node:ByteArray
 user:ByteArray
 deriving DecidableEq
instance:Inhabited Acc:=⟨⟨⟨#[]⟩,⟨#[]⟩,⟨#[]⟩⟩⟩
structure Chg where
 kind:Int
 acc:Acc
instance:Inhabited Chg:=⟨⟨0,default⟩⟩
def cmpP (a b:ByteArray):Int:=match splitP a,splitP b with
 | some l,some m=>cmpL l m
 | _,_=>0
def ltA (a b:Acc):Prop:=cmpP a.path b.path < 0
instance (a b:Acc):Decidable (ltA a b):=inferInstanceAs (Decidable (cmpP a.path b.path < 0))
end Go.Proofs.YthhfpcbpiphfiaaGreatDoor
namespace Go.Proofs.YthhfpcbpiphfiaaGreatDoor
attribute [local irreducible] PL QL PWPr PCalls Weak RetK Kontr PA
open Go.RowKit
open IntWalk renaming iteOmega → iO, toNatUp → tN
set_option linter.unusedVariables false
set_option linter.unusedSimpArgs false
set_option maxRecDepth 20000
set_option maxRecDepth 20000
set_option maxRecDepth 20000
set_option maxRecDepth 20000
set_option maxRecDepth 20000
set_option maxRecDepth 20000
set_option maxRecDepth 20000
set_option maxRecDepth 20000
set_option maxRecDepth 20000
set_option maxRecDepth 20000
set_option maxRecDepth 20000
end Go.Proofs.YthhfpcbpiphfiaaGreatDoor
namespace Go.Proofs.YthhfpcbpiphfiaaGreatDoor
open Go.RowKit
open IntWalk renaming iteOmega → iO, toNatUp → tN
set_option linter.unusedVariables false
set_option linter.unusedSimpArgs false
section
variable {P:Program} {N p:Nat} {ops:Array Oper} {rest:List Oper} {o:Oper} {s:S} {K:S → Prop}
end
attribute [push_cast] killO
end Go.Proofs.YthhfpcbpiphfiaaGreatDoor
namespace Go.Proofs.YthhfpcbpiphfiaaGreatDoor
attribute [local irreducible] PL QL PWPr PCalls Weak RetK Kontr PA
open Go.RowKit
open IntWalk renaming iteOmega → iO, toNatUp → tN
set_option linter.unusedVariables false
set_option linter.unusedSimpArgs false
set_option maxRecDepth 20000
set_option maxRecDepth 20000
set_option maxRecDepth 20000
def newOk (l:List Mod):Nat → Bool
 | 0=>true
 | i+1=>newOk l i && ((modOf (l.take i) (l.getD i default).name).isNone && modB (l.getD i default))
def newB (l:List Mod):Bool:=decide (l.length≤128) && newOk l l.length
theorem newOk_le {l:List Mod} {i j:Nat} (h:newOk l j=true) (hij:i≤j):newOk l i=true:=by
 induction j with
 | zero=>rw [show i=0 by omega];rfl
 | succ j ih =>
  rw [newOk,Bool.and_eq_true] at h
  rcases Nat.lt_or_ge i (j+1) with h1|h1
  ·exact ih h.1 (by omega)
  ·rw [show i=j+1 by omega,newOk,Bool.and_eq_true];exact h
theorem newOk_no {l:List Mod} {i:Nat} (hi:i < l.length) (h:((modOf (l.take i) (l.getD i default).name).isNone && modB (l.getD i default))=false):newB l=false:=by
 unfold newB
 cases hn:newOk l l.length with
 | false=>simp
 | true =>
  have:=newOk_le hn (show i+1≤l.length by omega)
  rw [newOk,h] at this
  simp at this
def newO (l:List Mod):List Ob:=[.box 63 [.v (.slice none 0 0),.own 1 l.length,.v (.slice none 0 0),.v (.slice none 0 0),.v (.int .i64 0)],.arr 36 6 (l.map Mod.d)]
attribute [push_cast] newO
theorem kmodN_pure (l:List Mod) (n:ByteArray) (hl:l.length≤1000000):PCalls Tryz.prog 22 [.c (.ptr 0 0),.c (.v (.string n))] (newO l) fun r os=>r = .two (.agg ((modOf l n).getD noMod).e) (.c (.v (.bool ((modOf l n).isSome))))∧os=newO l:=by
 have hi:=indexFuncM_pure l (by omega) 38 [0] [.box 9 [.v (.string n)]] (fun m=>decide (m.name=n)) ⟨by kernel_rfl,fun x _=>kmod1_pure x n⟩
 have htk:=List.take_of_length_le (l:=l.map Mod.d) (i:=l.length) (by simp)
 refine pcalls_of Tryz.func22 rfl (by simp [Tryz.ntmps22]) ?_
 rw [Tryz.ntmps22,Tryz.results22]
 push_cast [iO,tN]
 repeat' (first|((first|refine pG ?_|refine pQ ?_|refine pU ?_);push_cast [iO,tN])|(refine pif (fun h=>?_) (fun h=>?_)<;>first|exact pN h|push_cast [iO,tN]))
 (refine pl_call2 true [2] rfl rfl (by kernel_rfl) hi ?_ ?_ ?_;push_cast [iO,tN,htk];(intro _ r os;rintro ⟨j,hk,rfl,rfl⟩;push_cast [iO,tN]);rintro r os ⟨j,hk,rfl,rfl⟩)
 rcases hk with ⟨rfl,hn⟩|⟨i,rfl,hi2,hq,hpre⟩
 ·have hR:=mod_no hn
  push_cast [iO,tN]
  refine pl_of_pops ?_
  push_cast [iO,tN]
  repeat' (first|((first|refine pG ?_|refine pQ ?_|refine pU ?_);push_cast [iO,tN])|(refine pif (fun h=>?_) (fun h=>?_)<;>first|exact pN h|push_cast [iO,tN]))
  (refine retK_of [0,1] ?_;push_cast [iO,tN,hR,Option.getD_none,Option.isSome_none,noMod])
  repeat' (first|exact rfl|exact leOs_refl _|exact trivial|refine ⟨?_,?_⟩)
 ·have hR:=mod_at hi2 hq hpre
  push_cast [iO,tN]
  refine pl_of_pops ?_
  push_cast [iO,tN]
  repeat' (first|((first|refine pG ?_|refine pQ ?_|refine pU ?_);push_cast [iO,tN])|(refine pif (fun h=>?_) (fun h=>?_)<;>first|exact pN h|push_cast [iO,tN]))
  (refine retK_of [0,1] ?_;push_cast [iO,tN,hR,Option.getD_some,Option.isSome_some])
  repeat' (first|exact rfl|exact leOs_refl _|exact trivial|refine ⟨?_,?_⟩)
set_option maxHeartbeats 16000000 in
theorem knew_pure (l:List Mod) (hl:l.length≤9223372036854775807) (hm:∀ m ∈ l,ModFit m):PCalls Tryz.prog 15 [.c (.sl 6 (l.map Mod.d))] [] fun r os=>if newB l=true then r = .two (.c (.ptr 0 0)) (.c (.v (.int .i64 0)))∧os=kerO ⟨[],l,[],[],0⟩ else r = .two (.c (.v (.pointer none))) (.c (.v (.int .i64 54)))∧os=[]:=by
 refine pcalls_of Tryz.func15 rfl (by simp [Tryz.ntmps15]) ?_
 rw [Tryz.ntmps15,Tryz.results15]
 push_cast [iO,tN]
 have cB:CutB 9 [14,15,16]:=trivial
 by_cases hlen:l.length≤128
 case neg =>
  have hb:newB l=false:=by unfold newB;rw [decide_eq_false hlen];rfl
  have hl2:(128:Int) < (l.length:Int):=by omega
  rw [hb]
  repeat' (first|((first|refine pC ?_|refine pQC ?_|refine pU ?_);push_cast [iO,tN,hl2])|(refine pif (fun h=>?_) (fun h=>?_)<;>first|exact pN h|push_cast [iO,tN,hl2]))
  (refine retK_of [] ?_;push_cast [iO,tN])
 repeat' (first|((first|refine pC ?_|refine pQC ?_|refine pU ?_);push_cast [iO,tN])|(refine pif (fun h=>?_) (fun h=>?_)<;>first|exact pN h|push_cast [iO,tN]))
 refine pwp_weak (weak_adopt_box 0 1 36 6 (by omega) 63 [.v (.slice none 0 0),.v (.slice none 0 0),.v (.slice none 0 0),.v (.slice none 0 0),.v (.int .i64 0)] rfl rfl) ?_
 push_cast [iO,tN]
 (apply pwp_loop3 (α:=Nat) 9 [14,15,16] (fun i=>[(16,.c (.v (.int .i64 i)))]) (fun i=>[(0,.box 63 [.v (.slice none 0 0),.own 1 i,.v (.slice none 0 0),.v (.slice none 0 0),.v (.int .i64 0)]),(1,.arr 36 6 ((l.take i).map Mod.d))]) (fun i=>i≤l.length∧newOk l i=true) (fun i=>l.length - i) (0);(focus ((try push_cast [iO,tN]);rfl));(focus exact ⟨Nat.zero_le _,rfl⟩);(focus ((refine weak_fg ?_;try push_cast [iO,tN]);(try (rfl)))))
 rintro i ⟨hi,hok⟩
 push_cast [iO,tN]
 by_cases hlt:i < l.length
 case neg =>
  have hi2:i=l.length:=by omega
  subst hi2
  rw [List.take_length]
  have hb:newB l=true:=by unfold newB;rw [decide_eq_true hlen,hok];rfl
  have htk:=List.take_of_length_le (l:=l.map Mod.d) (i:=l.length) (by simp)
  rw [hb]
  refine pwp_weak (weak_frz 1 (by omega)) ?_
  push_cast [iO,tN,htk]
  refine pwp_weak (weak_adopt_box 0 2 9 1 (by omega) 63 [.v (.slice none 0 0),.sl 6 (l.map Mod.d),.v (.slice none 0 0),.v (.slice none 0 0),.v (.int .i64 0)] rfl rfl) ?_
  push_cast [iO,tN]
  refine pwp_weak (weak_adopt_box 0 3 223 5 (by omega) 63 [.v (.slice none 0 0),.sl 6 (l.map Mod.d),.own 2 0,.v (.slice none 0 0),.v (.int .i64 0)] rfl rfl) ?_
  push_cast [iO,tN]
  repeat' (first|((first|refine pC ?_|refine pQC ?_|refine pU ?_);push_cast [iO,tN])|(refine pif (fun h=>?_) (fun h=>?_)<;>first|exact pN h|push_cast [iO,tN]))
  (refine retK_of [0,2,3] ?_;push_cast [iO,tN])
 have hmem:l.getD i default ∈ l:=by rw [getD_lt l hlt];exact List.getElem_mem _
 have hno:=newOk_no hlt
 have hmd:=kmodN_pure (l.take i) (l.getD i default).name (by rw [List.length_take];omega)
 have hv:=kvalid_pure (l.getD i default) (hm _ hmem)
 have htk:l.take (i+1)=l.take i++[l.getD i default]:=by rw [List.take_succ_eq_append_getElem hlt,getD_lt l hlt]
 have htl:(l.take i).length=i:=by rw [List.length_take];omega
 have hst:((modOf (l.take i) (l.getD i default).name).isNone && modB (l.getD i default))=true → newOk l (i+1)=true:=fun h=>by rw [newOk,hok,h];rfl
 obtain ⟨u,hu⟩:∃ u,l.take i=u:=⟨_,rfl⟩
 obtain ⟨m,hmm⟩:∃ m,l.getD i default=m:=⟨_,rfl⟩
 have hmf:=hm _ hmem
 rw [hu] at hmd htk htl hno hst ⊢
 rw [hmm] at hmd hv htk hno hst hmf
 cases hso:modOf u m.name with
 | some x =>
  rw [hso] at hno hmd
  have hb:=hno rfl
  rw [hb]
  simp only [Option.getD_some,Option.isSome_some] at hmd
  repeat' (first|((refine plc [0,1] (hmd) ?_ ?_;push_cast [iO,tN,htl,hmm];rintro r os ⟨rfl,rfl⟩;push_cast [iO,tN,htl,hmm]))|((first|refine pC ?_|refine pQC ?_|refine pU ?_);push_cast [iO,tN,htl,hmm])|(refine pif (fun h=>?_) (fun h=>?_)<;>first|exact pN h|push_cast [iO,tN,htl,hmm]))
  (refine retK_of [] ?_;push_cast [iO,tN])
 | none =>
  rw [hso] at hno hmd hst
  simp only [Option.getD_none,Option.isSome_none] at hmd
  cases hvb:modB m with
  | false =>
   rw [hvb] at hv hno
   have hb:=hno rfl
   rw [hb]
   repeat' (first|((refine plc [0,1] (hmd) ?_ ?_;push_cast [iO,tN,htl,hmm];rintro r os ⟨rfl,rfl⟩;push_cast [iO,tN,htl,hmm]))|((refine plc [] (hv) ?_ ?_;push_cast [iO,tN,htl,hmm];rintro r os ⟨rfl,rfl⟩;push_cast [iO,tN,htl,hmm]))|((first|refine pC ?_|refine pQC ?_|refine pU ?_);push_cast [iO,tN,htl,hmm])|(refine pif (fun h=>?_) (fun h=>?_)<;>first|exact pN h|push_cast [iO,tN,htl,hmm]))
   (refine retK_of [] ?_;push_cast [iO,tN])
  | true =>
   rw [hvb] at hv hst
   have hnx:=hst rfl
   have hfw:fewB m=true:=by
    unfold modB at hvb
    cases hf:fewB m with
    | true=>rfl
    | false=>rw [hf] at hvb;simp at hvb
   unfold fewB at hfw
   simp only [Bool.and_eq_true,decide_eq_true_eq] at hfw
   have c1:=clone_pure m.aliases (by omega)
   have c2:=clone_pure m.needs (by omega)
   have c3:=clone_pure m.pre (by omega)
   have c4:=clone_pure m.post (by omega)
   repeat' (first|((refine plc [0,1] (hmd) ?_ ?_;push_cast [iO,tN,htl,hmm];rintro r os ⟨rfl,rfl⟩;push_cast [iO,tN,htl,hmm]))|((refine plc [] (hv) ?_ ?_;push_cast [iO,tN,htl,hmm];rintro r os ⟨rfl,rfl⟩;push_cast [iO,tN,htl,hmm]))|(refine hidR 10 ?_)|((first|refine pC ?_|refine pQC ?_|refine pU ?_);push_cast [iO,tN,htl,hmm])|(refine pif (fun h=>?_) (fun h=>?_)<;>first|exact pN h|push_cast [iO,tN,htl,hmm]))
   refine unhid ?_
   (refine pwp_cut 9 [14,15,16] ?_;refine pwp_drawn (by kernel_rfl) ?_;simp only [List.length_cons,List.length_nil,Nat.reduceAdd];refine pah 0 ?_;push_cast [iO,tN,  htl];refine pah 3 ?_;push_cast [iO,tN,  htl];refine pah 6 ?_;push_cast [iO,tN,  htl];refine pah 9 ?_;push_cast [iO,tN,  htl];apply pa_hav;intro z34;apply pa_hav;intro z33;apply pa_hav;intro z32;apply pa_hav;intro z31;apply pa_hav;intro z30;apply pa_hav;intro z29;apply pa_hav;intro z28;apply pa_hav;intro z26;apply pa_hav;intro z27;apply pa_hav;intro z24;apply pa_hav;intro z25;apply pa_hav;intro z19;apply pa_hav;intro z20;apply pa_hav;intro z21;apply pa_hav;intro z22;apply pa_hav;intro z23;apply pa_hav;intro z12;apply pa_hav;intro z13;apply pa_hav;intro z14;apply pa_hav;intro z15;apply pa_hav;intro z16;apply pa_hav;intro z17;apply pa_hav;intro z18;apply pa_hav;intro z5;apply pa_hav;intro z6;apply pa_hav;intro z7;apply pa_hav;intro z8;apply pa_hav;intro z9;apply pa_hav;intro z10;apply pa_hav;intro z11;apply pa_hav;intro z1;apply pa_hav;intro z2;apply pa_hav;intro z3;apply pa_hav;intro z4;refine pas [1,4,7,10] ?_;push_cast [iO,tN,  htl];refine ⟨z1,z2,z3,z4⟩;refine pas [1,4,7] ?_;push_cast [iO,tN,  htl];refine ⟨z8,z10,z11⟩;refine pas [1,4,10] ?_;push_cast [iO,tN,  htl];refine ⟨z7,z9,paw z11 ?_⟩<;>(refine weak_fg ?_;push_cast [iO,tN,  htl]);refine pas [1,7,10] ?_;push_cast [iO,tN,  htl];refine ⟨z6,paw z9 ?_,paw z10 ?_⟩<;>(refine weak_fg ?_;push_cast [iO,tN,  htl]);refine pas [2,4,7,10] ?_;push_cast [iO,tN,  htl];refine ⟨?_,?_,?_,?_⟩;(focus ((refine plc [] (c1) ?_ ?_;push_cast [iO,tN,  htl];rintro r os ⟨rfl,rfl⟩;push_cast [iO,tN,  htl]);exact z5));(focus (refine paw z6 ?_;refine weak_fg ?_;push_cast [iO,tN,  htl]));(focus (refine paw z7 ?_;refine weak_fg ?_;push_cast [iO,tN,  htl]));(focus (refine paw z8 ?_;refine weak_fg ?_;push_cast [iO,tN,  htl]));refine pas [1,4] ?_;push_cast [iO,tN,  htl];refine ⟨z17,z18⟩;refine pas [1,7] ?_;push_cast [iO,tN,  htl];refine ⟨z16,paw z18 ?_⟩<;>(refine weak_fg ?_;push_cast [iO,tN,  htl]);refine pas [1,10] ?_;push_cast [iO,tN,  htl];refine ⟨z15,paw z18 ?_⟩<;>(refine weak_fg ?_;push_cast [iO,tN,  htl]);refine pas [2,4,7] ?_;push_cast [iO,tN,  htl];refine ⟨?_,?_,?_⟩;(focus ((refine plc [] (c1) ?_ ?_;push_cast [iO,tN,  htl];rintro r os ⟨rfl,rfl⟩;push_cast [iO,tN,  htl]);exact z14));(focus (refine paw z16 ?_;refine weak_fg ?_;push_cast [iO,tN,  htl]));(focus (refine paw z17 ?_;refine weak_fg ?_;push_cast [iO,tN,  htl]));refine pas [2,4,10] ?_;push_cast [iO,tN,  htl];refine ⟨?_,?_,?_⟩;(focus ((refine plc [] (c1) ?_ ?_;push_cast [iO,tN,  htl];rintro r os ⟨rfl,rfl⟩;push_cast [iO,tN,  htl]);exact z13));(focus (refine paw z15 ?_;refine weak_fg ?_;push_cast [iO,tN,  htl]));(focus (refine paw z17 ?_;refine weak_fg ?_;push_cast [iO,tN,  htl]));refine pas [2,7,10] ?_;push_cast [iO,tN,  htl];refine ⟨?_,?_,?_⟩;(focus ((refine plc [] (c1) ?_ ?_;push_cast [iO,tN,  htl];rintro r os ⟨rfl,rfl⟩;push_cast [iO,tN,  htl]);exact z12));(focus (refine paw z15 ?_;refine weak_fg ?_;push_cast [iO,tN,  htl]));(focus (refine paw z16 ?_;refine weak_fg ?_;push_cast [iO,tN,  htl]));refine pas [4,7,10] ?_;push_cast [iO,tN,  htl];refine ⟨paw z12 ?_,paw z13 ?_,paw z14 ?_⟩<;>(refine weak_fg ?_;push_cast [iO,tN,  htl]);refine pas [1] ?_;push_cast [iO,tN,  htl];refine z23;refine pas [2,4] ?_;push_cast [iO,tN,  htl];refine ⟨?_,?_⟩;(focus ((refine plc [] (c1) ?_ ?_;push_cast [iO,tN,  htl];rintro r os ⟨rfl,rfl⟩;push_cast [iO,tN,  htl]);exact z22));(focus (refine paw z23 ?_;refine weak_fg ?_;push_cast [iO,tN,  htl]));refine pas [2,7] ?_;push_cast [iO,tN,  htl];refine ⟨?_,?_⟩;(focus ((refine plc [] (c1) ?_ ?_;push_cast [iO,tN,  htl];rintro r os ⟨rfl,rfl⟩;push_cast [iO,tN,  htl]);exact z21));(focus (refine paw z23 ?_;refine weak_fg ?_;push_cast [iO,tN,  htl]));refine pas [2,10] ?_;push_cast [iO,tN,  htl];refine ⟨?_,?_⟩;(focus ((refine plc [] (c1) ?_ ?_;push_cast [iO,tN,  htl];rintro r os ⟨rfl,rfl⟩;push_cast [iO,tN,  htl]);exact z20));(focus (refine paw z23 ?_;refine weak_fg ?_;push_cast [iO,tN,  htl]));refine pas [4,7] ?_;push_cast [iO,tN,  htl];refine ⟨paw z21 ?_,paw z22 ?_⟩<;>(refine weak_fg ?_;push_cast [iO,tN,  htl]);refine pas [4,10] ?_;push_cast [iO,tN,  htl];refine ⟨paw z20 ?_,paw z22 ?_⟩<;>(refine weak_fg ?_;push_cast [iO,tN,  htl]);refine pas [5,7,10] ?_;push_cast [iO,tN,  htl];refine ⟨?_,?_,?_⟩;(focus ((refine plc [] (c2) ?_ ?_;push_cast [iO,tN,  htl];rintro r os ⟨rfl,rfl⟩;push_cast [iO,tN,  htl]);exact z19));(focus (refine paw z20 ?_;refine weak_fg ?_;push_cast [iO,tN,  htl]));(focus (refine paw z21 ?_;refine weak_fg ?_;push_cast [iO,tN,  htl]));refine pas [2] ?_;push_cast [iO,tN,  htl];(focus ((refine plc [] (c1) ?_ ?_;push_cast [iO,tN,  htl];rintro r os ⟨rfl,rfl⟩;push_cast [iO,tN,  htl]);refine pah 12 ?_;push_cast [iO,tN,  htl];exact z26));refine pas [4] ?_;push_cast [iO,tN,  htl];(focus (refine pah 12 ?_;push_cast [iO,tN,  htl];refine paw z26 ?_;refine weak_fg ?_;push_cast [iO,tN,  htl]));refine pas [5,7] ?_;push_cast [iO,tN,  htl];refine ⟨?_,?_⟩;(focus ((refine plc [] (c2) ?_ ?_;push_cast [iO,tN,  htl];rintro r os ⟨rfl,rfl⟩;push_cast [iO,tN,  htl]);exact z25));(focus (refine pah 12 ?_;push_cast [iO,tN,  htl];refine paw z26 ?_;refine weak_fg ?_;push_cast [iO,tN,  htl]));refine pas [5,10] ?_;push_cast [iO,tN,  htl];refine ⟨?_,?_⟩;(focus ((refine plc [] (c2) ?_ ?_;push_cast [iO,tN,  htl];rintro r os ⟨rfl,rfl⟩;push_cast [iO,tN,  htl]);exact z24));(focus (refine pah 12 ?_;push_cast [iO,tN,  htl];refine paw z26 ?_;refine weak_fg ?_;push_cast [iO,tN,  htl]));refine pas [7,10] ?_;push_cast [iO,tN,  htl];refine ⟨paw z24 ?_,paw z25 ?_⟩<;>(refine weak_fg ?_;push_cast [iO,tN,  htl]);refine pas [7] ?_;push_cast [iO,tN,  htl];(focus (refine pah 12 ?_;push_cast [iO,tN,  htl];exact z28));refine pas [8,10] ?_;push_cast [iO,tN,  htl];refine ⟨?_,?_⟩;(focus ((refine plc [] (c3) ?_ ?_;push_cast [iO,tN,  htl];rintro r os ⟨rfl,rfl⟩;push_cast [iO,tN,  htl]);exact z27));(focus (refine pah 12 ?_;push_cast [iO,tN,  htl];refine paw z28 ?_;refine weak_fg ?_;push_cast [iO,tN,  htl]));refine pas [10] ?_;push_cast [iO,tN,  htl];(focus (refine pah 12 ?_;push_cast [iO,tN,  htl];exact z29));refine pas [5] ?_;push_cast [iO,tN,  htl];(focus ((refine plc [] (c2) ?_ ?_;push_cast [iO,tN,  htl];rintro r os ⟨rfl,rfl⟩;push_cast [iO,tN,  htl]);refine paw z28 ?_;refine weak_fg ?_;push_cast [iO,tN,  htl]));refine pas [8] ?_;push_cast [iO,tN,  htl];(focus ((refine plc [] (c3) ?_ ?_;push_cast [iO,tN,  htl];rintro r os ⟨rfl,rfl⟩;push_cast [iO,tN,  htl]);refine paw z29 ?_;refine weak_fg ?_;push_cast [iO,tN,  htl]));refine pas [11] ?_;push_cast [iO,tN,  htl];(focus ((refine plc [] (c4) ?_ ?_;push_cast [iO,tN,  htl];rintro r os ⟨rfl,rfl⟩;push_cast [iO,tN,  htl]);exact z30));refine pas [13] ?_;push_cast [iO,tN,  htl];(focus (refine pah 14 ?_;push_cast [iO,tN,  htl];exact z31));refine pas [15] ?_;push_cast [iO,tN,  htl];(focus (refine pah 16 ?_;push_cast [iO,tN,  htl];exact z32));refine pas [17] ?_;push_cast [iO,tN,  htl];(focus (refine pah 18 ?_;push_cast [iO,tN,  htl];exact z33));refine pas [19] ?_;push_cast [iO,tN,  htl];refine paw z34 (weak_cutS 9 [14,15,16] _);push_cast [iO,tN,  htl];refine pad ?_;push_cast [iO,tN,  htl])
   have t1:=List.take_of_length_le (l:=m.aliases.map strD) (i:=m.aliases.length) (by simp)
   have t2:=List.take_of_length_le (l:=m.needs.map strD) (i:=m.needs.length) (by simp)
   have t3:=List.take_of_length_le (l:=m.pre.map strD) (i:=m.pre.length) (by simp)
   have t4:=List.take_of_length_le (l:=m.post.map strD) (i:=m.post.length) (by simp)
   refine pwp_weak (weak_frz 4 (by omega)) ?_
   push_cast [iO,tN,t1]
   refine pwp_weak (weak_frz 5 (by omega)) ?_
   push_cast [iO,tN,t2]
   refine pwp_weak (weak_frz 6 (by omega)) ?_
   push_cast [iO,tN,t3]
   refine pwp_weak (weak_frz 7 (by omega)) ?_
   push_cast [iO,tN,t4]
   repeat' (first|((refine pwp_cut 9 [14,15,16] ?_;apply pwp_drawn_to;(focus kernel_rfl);(focus (simp only [List.length_cons,List.length_nil,Nat.reduceAdd];(repeat' first|((first|refine pah 0 ?_|refine pah 1 ?_|refine pah 2 ?_|refine pah 3 ?_|refine pah 8 ?_|refine pah 9 ?_);push_cast [iO,tN,  htl])|(refine pad ?_;first|with_reducible exact weak_cutS 9 [14,15,16] _|(refine weak_fg ?_;push_cast [iO,tN,  htl]))|((first|refine pas [4] ?_|refine pas [5] ?_|refine pas [6] ?_|refine pas [7] ?_|refine pas [10] ?_);push_cast [iO,tN,  htl])|((first|refine pas [4,5] ?_|refine pas [4,6] ?_);push_cast [iO,tN,  htl];refine ⟨?_,?_⟩));done));push_cast [iO,tN,  htl]))|((first|refine pC ?_|refine pQC ?_|refine pU ?_);push_cast [iO,tN,htl])|(refine pif (fun h=>?_) (fun h=>?_)<;>first|exact pN h|push_cast [iO,tN,htl]))
   exact ⟨i+1,⟨by omega,hnx⟩,by (refine weak_fg ?_;push_cast [iO,tN,htk]),by omega⟩
theorem modOf_none {l:List Mod} {n:ByteArray} (h:∀ m ∈ l,m.name≠n):(modOf l n).isNone=true:=by
 have:modOf l n=none:=by
  unfold modOf
  rw [List.find?_eq_none]
  intro x hx
  simpa using h x hx
 rw [this];rfl
end Go.Proofs.YthhfpcbpiphfiaaGreatDoor
