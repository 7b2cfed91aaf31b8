/- What the program computes, and the plain laws of it, part 34. -/
import Derived.Lib.ItoaNum
import Derived.WideKeyEntry
import Derived.Test.YtmbbkfffcflfcaaGreatDoorT33
namespace Go.Proofs.YtmbbkfffcflfcaaGreatDoor
open Go.Proofs.Tryz
set_option linter.unusedSimpArgs false
set_option linter.unusedVariables false
attribute [local irreducible] PL QL aL ah bg La aV PA
open Go.RowKit
open IntWalk renaming iteOmega → O, toNatUp → U
set_option maxRecDepth 20000
def ge (l:List Mod):Nat → Bool
 | 0=>true
 | i+1=>ge l i && ((aJ (l.take i) (l.getD i default).name).isNone && kb (l.getD i default))
def jN (l:List Mod):Bool:=decide (l.length≤128) && ge l l.length
theorem Fz {l:List Mod} {i j:Nat} (h:ge l j=true) (hij:i≤j):ge l i=true:=by
 induction j with
 | zero=>rw [show i=0 by omega];rfl
 | succ j ih =>
  rw [ge,Bool.and_eq_true] at h;rcases Nat.lt_or_ge i (j+1) with h1|h1
  ·exact ih h.1 ac
  ·rw [show i=j+1 by omega,ge,Bool.and_eq_true];exact h
theorem xw {l:List Mod} {i:Nat} (hi:i < l.length) (h:((aJ (l.take i) (l.getD i default).name).isNone && kb (l.getD i default))=false):jN l=false:=by
 unfold jN;cases hn:ge l l.length with
 | false=>simp
 | true =>
  have:=Fz hn (show i+1≤l.length by omega);rw [ge,h] at this;simp at this
def Jz (l:List Mod):List Ob:=[.box 87 [.v (.slice none 0 0),.own 1 l.length,.v (.slice none 0 0),.v (.slice none 0 0),.v (.int .i64 0)],.arr 33 6 (l.map Mod.d)]
attribute [push_cast] Jz
theorem zh (l:List Mod) (n:ByteArray) (hl:l.length≤1000000):ah prog 44 [.c (.ptr 0 0),.c (.v (.string n))] (Jz l) fun r os=>r = .two (.agg ((aJ l n).getD bW).e) (.c (.v (.bool ((aJ l n).isSome))))∧os=Jz l:=by
 have hi:=jY l ac 72 [0] [.box 9 [.v (.string n)]] (fun m=>decide (m.name=n)) ⟨aj,fun x _=>rE x n⟩;have htk:=List.take_of_length_le (l:=l.map Mod.d) (i:=l.length) (by simp);refine aw func44 ntmps44 results44 ?_;push_cast [O,U];repeat' ((first|refine au ?_|refine pif ?_ ?_<;>intro h<;>try exact pN h)<;>push_cast [O,U])
 (refine aW true [2] rfl rfl aj hi ?_ ?_ ?_;push_cast [O,U,htk];(intro _ r os;rintro ⟨j,hk,rfl,rfl⟩;push_cast [O,U]);rintro r os ⟨j,hk,rfl,rfl⟩);rcases hk with ⟨rfl,hn⟩|⟨i,rfl,hi2,hq,hpre⟩
 ·have hR:=E5 hn;push_cast [O,U];refine an ?_;push_cast [O,U];repeat' ((first|refine au ?_|refine pif ?_ ?_<;>intro h<;>try exact pN h)<;>push_cast [O,U])
  (refine K9 [0,1] ?_;push_cast [O,U,hR,Option.getD_none,Option.isSome_none,bW]);repeat' (first|exact rfl|exact aB _|exact trivial|refine ⟨?_,?_⟩)
 ·have hR:=E6 hi2 hq hpre;push_cast [O,U];refine an ?_;push_cast [O,U];repeat' ((first|refine au ?_|refine pif ?_ ?_<;>intro h<;>try exact pN h)<;>push_cast [O,U])
  (refine K9 [0,1] ?_;push_cast [O,U,hR,Option.getD_some,Option.isSome_some]);repeat' (first|exact rfl|exact aB _|exact trivial|refine ⟨?_,?_⟩)
set_option maxHeartbeats 16000000 in
theorem Cd (l:List Mod) (hl:l.length≤9223372036854775807) (hm:∀ m ∈ l,rF m):ah prog 16 [.c (.sl 6 (l.map Mod.d))] [] fun r os=>if jN l=true then r = .two (.c (.ptr 0 0)) (.c (.v (.int .i64 0)))∧os=bI ⟨[],l,[],[],0⟩ else r = .two (.c (.v (.pointer none))) (.c (.v (.int .i64 54)))∧os=[]:=by
 refine aw func16 ntmps16 results16 ?_;push_cast [O,U];have cB:aH 9 [14,15,16]:=trivial;by_cases hlen:l.length≤128
 case neg =>
  have hb:jN l=false:=by unfold jN;rw [decide_eq_false hlen];rfl
  have hl2:(128:Int) < (l.length:Int):=ac;rw [hb];repeat' ((first|refine ae ?_|refine pif ?_ ?_<;>intro h<;>try exact pN h)<;>push_cast [O,U,hl2])
  exact am []
 repeat' ((first|refine ae ?_|refine pif ?_ ?_<;>intro h<;>try exact pN h)<;>push_cast [O,U])
 refine aF (bP 0 1 33 6 ac 87 [.v (.slice none 0 0),.v (.slice none 0 0),.v (.slice none 0 0),.v (.slice none 0 0),.v (.int .i64 0)] rfl rfl) ?_;push_cast [O,U];(apply ap (α:=Nat) 9 [14,15,16] (fun i=>[(16,.c (.v (.int .i64 i)))]) (fun i=>[(0,.box 87 [.v (.slice none 0 0),.own 1 i,.v (.slice none 0 0),.v (.slice none 0 0),.v (.int .i64 0)]),(1,.arr 33 6 ((l.take i).map Mod.d))]) (fun i=>i≤l.length∧ge l i=true) (fun i=>l.length - i) (0);(focus ((try push_cast [O,U]);rfl));(focus exact ⟨Nat.zero_le _,rfl⟩);(focus ((refine weak_fg ?_;try push_cast [O,U]);(try (rfl)))));rintro i ⟨hi,hok⟩;push_cast [O,U];by_cases hlt:i < l.length
 case neg =>
  have hi2:i=l.length:=ac;subst hi2;rw [List.take_length];have hb:jN l=true:=by unfold jN;rw [decide_eq_true hlen,hok];rfl
  have htk:=List.take_of_length_le (l:=l.map Mod.d) (i:=l.length) (by simp);rw [hb];refine aF (bQ 1 ac) ?_;push_cast [O,U,htk];refine aF (bP 0 2 9 1 ac 87 [.v (.slice none 0 0),.sl 6 (l.map Mod.d),.v (.slice none 0 0),.v (.slice none 0 0),.v (.int .i64 0)] rfl rfl) ?_;push_cast [O,U];refine aF (bP 0 3 69 5 ac 87 [.v (.slice none 0 0),.sl 6 (l.map Mod.d),.own 2 0,.v (.slice none 0 0),.v (.int .i64 0)] rfl rfl) ?_;push_cast [O,U];repeat' ((first|refine ae ?_|refine pif ?_ ?_<;>intro h<;>try exact pN h)<;>push_cast [O,U])
  exact am [0,2,3]
 have hmem:l.getD i default ∈ l:=by rw [ai l hlt];exact List.getElem_mem _
 have hno:=xw hlt;have hmd:=zh (l.take i) (l.getD i default).name (by rw [List.length_take];omega);have hv:=xf (l.getD i default) (hm _ hmem);have htk:l.take (i+1)=l.take i++[l.getD i default]:=by rw [List.take_succ_eq_append_getElem hlt,ai l hlt]
 have htl:(l.take i).length=i:=by rw [List.length_take];omega
 have hst:((aJ (l.take i) (l.getD i default).name).isNone && kb (l.getD i default))=true → ge l (i+1)=true:=fun h=>by rw [ge,hok,h];rfl
 obtain ⟨u,hu⟩:∃ u,l.take i=u:=⟨_,rfl⟩
 obtain ⟨m,hmm⟩:∃ m,l.getD i default=m:=⟨_,rfl⟩
 have hmf:=hm _ hmem;rw [hu] at hmd htk htl hno hst ⊢;rw [hmm] at hmd hv htk hno hst hmf;cases hso:aJ u m.name with
 | some x =>
  rw [hso] at hno hmd;have hb:=hno rfl;rw [hb];simp only [Option.getD_some,Option.isSome_some] at hmd;repeat' ((first|(refine plE [0,1] hmd ?_ ?_;focus (push_cast [O,U,htl,hmm];done))|refine ae ?_|refine pif ?_ ?_<;>intro h<;>try exact pN h)<;>push_cast [O,U,htl,hmm])
  exact am []
 | none =>
  rw [hso] at hno hmd hst;simp only [Option.getD_none,Option.isSome_none] at hmd;cases hvb:kb m with
  | false =>
   rw [hvb] at hv hno;have hb:=hno rfl;rw [hb];repeat' ((first|(refine plE [0,1] hmd ?_ ?_;focus (push_cast [O,U,htl,hmm];done))|(refine plE [] hv ?_ ?_;focus (push_cast [O,U,htl,hmm];done))|refine ae ?_|refine pif ?_ ?_<;>intro h<;>try exact pN h)<;>push_cast [O,U,htl,hmm])
   exact am []
  | true =>
   rw [hvb] at hv hst;have hnx:=hst rfl;have hfw:pT m=true:=by
    unfold kb at hvb;cases hf:pT m with
    | true=>rfl
    | false=>rw [hf] at hvb;simp at hvb
   unfold pT at hfw;simp only [Bool.and_eq_true,decide_eq_true_eq] at hfw;have c1:=eY m.aliases ac;have c2:=eY m.needs ac;have c3:=eY m.pre ac;have c4:=eY m.post ac;repeat' ((first|(refine plE [0,1] hmd ?_ ?_;focus (push_cast [O,U,htl,hmm];done))|(refine plE [] hv ?_ ?_;focus (push_cast [O,U,htl,hmm];done))|(refine eQ 10 ?_)|refine ae ?_|refine pif ?_ ?_<;>intro h<;>try exact pN h)<;>push_cast [O,U,htl,hmm])
   refine dd ?_;(refine av 9 [14,15,16] ?_;refine aO aj ?_;simp only [aP,Nat.reduceAdd];refine pah 0 ?_;push_cast [O,U,  htl];refine pah 3 ?_;push_cast [O,U,  htl];refine pah 6 ?_;push_cast [O,U,  htl];refine pah 9 ?_;push_cast [O,U,  htl];apply ar;intro z34;apply ar;intro z33;apply ar;intro z32;apply ar;intro z31;apply ar;intro z30;apply ar;intro z29;apply ar;intro z28;apply ar;intro z26;apply ar;intro z27;apply ar;intro z24;apply ar;intro z25;apply ar;intro z19;apply ar;intro z20;apply ar;intro z21;apply ar;intro z22;apply ar;intro z23;apply ar;intro z12;apply ar;intro z13;apply ar;intro z14;apply ar;intro z15;apply ar;intro z16;apply ar;intro z17;apply ar;intro z18;apply ar;intro z5;apply ar;intro z6;apply ar;intro z7;apply ar;intro z8;apply ar;intro z9;apply ar;intro z10;apply ar;intro z11;apply ar;intro z1;apply ar;intro z2;apply ar;intro z3;apply ar;intro z4;refine pas [1,4,7,10] ?_;push_cast [O,U,  htl];refine ⟨z1,z2,z3,z4⟩;refine pas [1,4,7] ?_;push_cast [O,U,  htl];refine ⟨z8,z10,z11⟩;refine pas [1,4,10] ?_;push_cast [O,U,  htl];refine ⟨z7,z9,paw z11 ?_⟩<;>(refine weak_fg ?_;push_cast [O,U,  htl]);refine pas [1,7,10] ?_;push_cast [O,U,  htl];refine ⟨z6,paw z9 ?_,paw z10 ?_⟩<;>(refine weak_fg ?_;push_cast [O,U,  htl]);refine pas [2,4,7,10] ?_;push_cast [O,U,  htl];refine ⟨?_,?_,?_,?_⟩;(focus ((refine plE [] c1 ?_ ?_;(focus (push_cast [O,U,  htl];done));push_cast [O,U,  htl]);exact z5));(focus (refine paw z6 ?_;refine weak_fg ?_;push_cast [O,U,  htl]));(focus (refine paw z7 ?_;refine weak_fg ?_;push_cast [O,U,  htl]));(focus (refine paw z8 ?_;refine weak_fg ?_;push_cast [O,U,  htl]));refine pas [1,4] ?_;push_cast [O,U,  htl];refine ⟨z17,z18⟩;refine pas [1,7] ?_;push_cast [O,U,  htl];refine ⟨z16,paw z18 ?_⟩<;>(refine weak_fg ?_;push_cast [O,U,  htl]);refine pas [1,10] ?_;push_cast [O,U,  htl];refine ⟨z15,paw z18 ?_⟩<;>(refine weak_fg ?_;push_cast [O,U,  htl]);refine pas [2,4,7] ?_;push_cast [O,U,  htl];refine ⟨?_,?_,?_⟩;(focus ((refine plE [] c1 ?_ ?_;(focus (push_cast [O,U,  htl];done));push_cast [O,U,  htl]);exact z14));(focus (refine paw z16 ?_;refine weak_fg ?_;push_cast [O,U,  htl]));(focus (refine paw z17 ?_;refine weak_fg ?_;push_cast [O,U,  htl]));refine pas [2,4,10] ?_;push_cast [O,U,  htl];refine ⟨?_,?_,?_⟩;(focus ((refine plE [] c1 ?_ ?_;(focus (push_cast [O,U,  htl];done));push_cast [O,U,  htl]);exact z13));(focus (refine paw z15 ?_;refine weak_fg ?_;push_cast [O,U,  htl]));(focus (refine paw z17 ?_;refine weak_fg ?_;push_cast [O,U,  htl]));refine pas [2,7,10] ?_;push_cast [O,U,  htl];refine ⟨?_,?_,?_⟩;(focus ((refine plE [] c1 ?_ ?_;(focus (push_cast [O,U,  htl];done));push_cast [O,U,  htl]);exact z12));(focus (refine paw z15 ?_;refine weak_fg ?_;push_cast [O,U,  htl]));(focus (refine paw z16 ?_;refine weak_fg ?_;push_cast [O,U,  htl]));refine pas [4,7,10] ?_;push_cast [O,U,  htl];refine ⟨paw z12 ?_,paw z13 ?_,paw z14 ?_⟩<;>(refine weak_fg ?_;push_cast [O,U,  htl]);refine pas [1] ?_;push_cast [O,U,  htl];refine z23;refine pas [2,4] ?_;push_cast [O,U,  htl];refine ⟨?_,?_⟩;(focus ((refine plE [] c1 ?_ ?_;(focus (push_cast [O,U,  htl];done));push_cast [O,U,  htl]);exact z22));(focus (refine paw z23 ?_;refine weak_fg ?_;push_cast [O,U,  htl]));refine pas [2,7] ?_;push_cast [O,U,  htl];refine ⟨?_,?_⟩;(focus ((refine plE [] c1 ?_ ?_;(focus (push_cast [O,U,  htl];done));push_cast [O,U,  htl]);exact z21));(focus (refine paw z23 ?_;refine weak_fg ?_;push_cast [O,U,  htl]));refine pas [2,10] ?_;push_cast [O,U,  htl];refine ⟨?_,?_⟩;(focus ((refine plE [] c1 ?_ ?_;(focus (push_cast [O,U,  htl];done));push_cast [O,U,  htl]);exact z20));(focus (refine paw z23 ?_;refine weak_fg ?_;push_cast [O,U,  htl]));refine pas [4,7] ?_;push_cast [O,U,  htl];refine ⟨paw z21 ?_,paw z22 ?_⟩<;>(refine weak_fg ?_;push_cast [O,U,  htl]);refine pas [4,10] ?_;push_cast [O,U,  htl];refine ⟨paw z20 ?_,paw z22 ?_⟩<;>(refine weak_fg ?_;push_cast [O,U,  htl]);refine pas [5,7,10] ?_;push_cast [O,U,  htl];refine ⟨?_,?_,?_⟩;(focus ((refine plE [] c2 ?_ ?_;(focus (push_cast [O,U,  htl];done));push_cast [O,U,  htl]);exact z19));(focus (refine paw z20 ?_;refine weak_fg ?_;push_cast [O,U,  htl]));(focus (refine paw z21 ?_;refine weak_fg ?_;push_cast [O,U,  htl]));refine pas [2] ?_;push_cast [O,U,  htl];(focus ((refine plE [] c1 ?_ ?_;(focus (push_cast [O,U,  htl];done));push_cast [O,U,  htl]);refine pah 12 ?_;push_cast [O,U,  htl];exact z26));refine pas [4] ?_;push_cast [O,U,  htl];(focus (refine pah 12 ?_;push_cast [O,U,  htl];refine paw z26 ?_;refine weak_fg ?_;push_cast [O,U,  htl]));refine pas [5,7] ?_;push_cast [O,U,  htl];refine ⟨?_,?_⟩;(focus ((refine plE [] c2 ?_ ?_;(focus (push_cast [O,U,  htl];done));push_cast [O,U,  htl]);exact z25));(focus (refine pah 12 ?_;push_cast [O,U,  htl];refine paw z26 ?_;refine weak_fg ?_;push_cast [O,U,  htl]));refine pas [5,10] ?_;push_cast [O,U,  htl];refine ⟨?_,?_⟩;(focus ((refine plE [] c2 ?_ ?_;(focus (push_cast [O,U,  htl];done));push_cast [O,U,  htl]);exact z24));(focus (refine pah 12 ?_;push_cast [O,U,  htl];refine paw z26 ?_;refine weak_fg ?_;push_cast [O,U,  htl]));refine pas [7,10] ?_;push_cast [O,U,  htl];refine ⟨paw z24 ?_,paw z25 ?_⟩<;>(refine weak_fg ?_;push_cast [O,U,  htl]);refine pas [7] ?_;push_cast [O,U,  htl];(focus (refine pah 12 ?_;push_cast [O,U,  htl];exact z28));refine pas [8,10] ?_;push_cast [O,U,  htl];refine ⟨?_,?_⟩;(focus ((refine plE [] c3 ?_ ?_;(focus (push_cast [O,U,  htl];done));push_cast [O,U,  htl]);exact z27));(focus (refine pah 12 ?_;push_cast [O,U,  htl];refine paw z28 ?_;refine weak_fg ?_;push_cast [O,U,  htl]));refine pas [10] ?_;push_cast [O,U,  htl];(focus (refine pah 12 ?_;push_cast [O,U,  htl];exact z29));refine pas [5] ?_;push_cast [O,U,  htl];(focus ((refine plE [] c2 ?_ ?_;(focus (push_cast [O,U,  htl];done));push_cast [O,U,  htl]);refine paw z28 ?_;refine weak_fg ?_;push_cast [O,U,  htl]));refine pas [8] ?_;push_cast [O,U,  htl];(focus ((refine plE [] c3 ?_ ?_;(focus (push_cast [O,U,  htl];done));push_cast [O,U,  htl]);refine paw z29 ?_;refine weak_fg ?_;push_cast [O,U,  htl]));refine pas [11] ?_;push_cast [O,U,  htl];(focus ((refine plE [] c4 ?_ ?_;(focus (push_cast [O,U,  htl];done));push_cast [O,U,  htl]);exact z30));refine pas [13] ?_;push_cast [O,U,  htl];(focus (refine pah 14 ?_;push_cast [O,U,  htl];exact z31));refine pas [15] ?_;push_cast [O,U,  htl];(focus (refine pah 16 ?_;push_cast [O,U,  htl];exact z32));refine pas [17] ?_;push_cast [O,U,  htl];(focus (refine pah 18 ?_;push_cast [O,U,  htl];exact z33));refine pas [19] ?_;push_cast [O,U,  htl];refine paw z34 (ao 9 [14,15,16] _);push_cast [O,U,  htl];refine pad ?_;push_cast [O,U,  htl]);have t1:=List.take_of_length_le (l:=m.aliases.map aU) (i:=m.aliases.length) (by simp);have t2:=List.take_of_length_le (l:=m.needs.map aU) (i:=m.needs.length) (by simp);have t3:=List.take_of_length_le (l:=m.pre.map aU) (i:=m.pre.length) (by simp);have t4:=List.take_of_length_le (l:=m.post.map aU) (i:=m.post.length) (by simp);refine aF (bQ 4 ac) ?_;push_cast [O,U,t1];refine aF (bQ 5 ac) ?_;push_cast [O,U,t2];refine aF (bQ 6 ac) ?_;push_cast [O,U,t3];refine aF (bQ 7 ac) ?_;push_cast [O,U,t4];repeat' ((first|(refine av 9 [14,15,16] ?_;apply ak;(focus kernel_rfl);(focus (simp only [aP,Nat.reduceAdd];(repeat' first|((first|refine pah 0 ?_|refine pah 1 ?_|refine pah 2 ?_|refine pah 3 ?_|refine pah 8 ?_|refine pah 9 ?_);push_cast [O,U,  htl])|(refine pad ?_;first|with_reducible exact ao 9 [14,15,16] _|(refine weak_fg ?_;push_cast [O,U,  htl]))|((first|refine pas [4] ?_|refine pas [5] ?_|refine pas [6] ?_|refine pas [7] ?_|refine pas [10] ?_);push_cast [O,U,  htl])|((first|refine pas [4,5] ?_|refine pas [4,6] ?_);push_cast [O,U,  htl];refine ⟨?_,?_⟩));done));push_cast [O,U,  htl])|refine ae ?_|refine pif ?_ ?_<;>intro h<;>try exact pN h)<;>push_cast [O,U,htl])
   exact ⟨i+1,⟨ac,hnx⟩,by (refine weak_fg ?_;push_cast [O,U,htk]),ac⟩
set_option maxRecDepth 20000
def fb (l:List ByteArray):Bool:=(l.all validS) && decide (l.length≤16)
theorem k7 (l:List ByteArray) (hl:l.length≤9223372036854775807) (hf:∀ s ∈ l,Fit s):ah prog 80 [.c (.sl 1 (l.map aU))] [] fun r os=>r = .c (.v (.bool (fb l)))∧os=[]:=by
 refine aw func80 ntmps80 results80 ?_;push_cast [O,U];have cB:aH 4 []:=trivial;repeat' ((first|refine ae ?_|refine pif ?_ ?_<;>intro h<;>try exact pN h)<;>push_cast [O,U])
 (apply ap (α:=Nat) 4 [] (fun k=>[(3,.c (.v (.int .i64 k)))]) (fun k=>[]) (fun k=>k≤l.length∧(l.take k).all validS=true) (fun k=>l.length - k) (0);(focus ((try push_cast [O,U]);rfl));(focus exact ⟨Nat.zero_le _,rfl⟩);(focus ((refine weak_fg ?_;try push_cast [O,U]);(try (rfl)))));rintro k ⟨hk,hpre⟩;push_cast [O,U];by_cases hlt:k < l.length
 ·have hm:l.getD k default ∈ l:=by rw [ai l hlt];exact List.getElem_mem _
  have hc:=de (l.getD k default) (hf _ hm);have htk:l.take (k+1)=l.take k++[l.getD k default]:=by rw [List.take_succ_eq_append_getElem hlt,ai l hlt]
  cases hb:validS (l.getD k default) with
  | false =>
   have hn:fb l=false:=by
    unfold fb;have:l.all validS=false:=by rw [List.all_eq_false];exact ⟨_,hm,by rw [hb];decide⟩
    rw [this];rfl
   rw [hb] at hc;rw [hn];repeat' ((first|refine aK [] hc ?_|refine ae ?_|refine pif ?_ ?_<;>intro h<;>try exact pN h)<;>push_cast [O,U])
   exact am []
  | true =>
   rw [hb] at hc;repeat' ((first|refine aK [] hc ?_|refine ae ?_|refine pif ?_ ?_<;>intro h<;>try exact pN h)<;>push_cast [O,U])
   exact ⟨k+1,⟨ac,by rw [htk,List.all_append,hpre,List.all_cons,hb];rfl⟩,aA,ac⟩
 ·rw [List.take_of_length_le ac] at hpre;have hn:fb l=decide (l.length≤16):=by unfold fb;rw [hpre];rfl
  rw [hn];repeat' ((first|refine ae ?_|refine pif ?_ ?_<;>intro h<;>try exact pN h)<;>push_cast [O,U])
  (refine K9 [] ?_;push_cast [O,U]);exact decide_eq_decide.2 ac
theorem vk (l:List ByteArray):(l.any fun s=>!validS s) = !(l.all validS):=by
 induction l with
 | nil=>rfl
 | cons a l ih=>simp only [List.any_cons,List.all_cons,ih];cases validS a<;>simp
theorem rV (m:Mod):kb m=(((((validS m.name && fb m.needs) && fb m.pre) && fb m.post) && decide (m.aliases.length≤16)) && !(m.aliases.any fun p=>decide (cA p≠0))):=by
 unfold kb pT fb;rw [List.any_append,List.any_append,vk,vk,vk];generalize m.needs.all validS=a;generalize m.pre.all validS=b;generalize m.post.all validS=c;generalize validS m.name=d;generalize (m.aliases.any fun p=>decide (cA p≠0))=e;generalize decide (m.aliases.length≤16)=f;generalize decide (m.needs.length≤16)=g;generalize decide (m.pre.length≤16)=h;generalize decide (m.post.length≤16)=i;cases a<;>cases b<;>cases c<;>cases d<;>cases e<;>cases f<;>cases g<;>cases h<;>cases i<;>rfl
theorem zi {l:List Mod} {n:ByteArray} {m:Mod} (hm:m ∈ l) (h:m.name=n):(aJ l n).isNone=false:=by
 cases hq:aJ l n with
 | some x=>rfl
 | none =>
  unfold aJ at hq;rw [List.find?_eq_none] at hq;exact absurd h (by simpa using hq m hm)
theorem rW {l:List Mod} {n:ByteArray} (h:∀ m ∈ l,m.name≠n):(aJ l n).isNone=true:=by
 have:aJ l n=none:=by
  unfold aJ;rw [List.find?_eq_none];intro x hx;simpa using h x hx
 rw [this];rfl
set_option maxHeartbeats 8000000 in
theorem sO (l:List Mod) (hl:l.length≤9223372036854775807) (hm:∀ m ∈ l,rF m):ah prog 47 [.c (.sl 6 (l.map Mod.d))] [] fun r os=>r = .c (.v (.bool (jN l)))∧os=[]:=by
 refine aw func47 ntmps47 results47 ?_;push_cast [O,U];have cB:aH 7 [74]:=trivial;by_cases hlen:l.length≤128
 case neg =>
  have hb:jN l=false:=by unfold jN;rw [decide_eq_false hlen];rfl
  have hl2:(128:Int) < (l.length:Int):=ac;rw [hb];repeat' ((first|refine ae ?_|refine pif ?_ ?_<;>intro h<;>try exact pN h)<;>push_cast [O,U,hl2])
  exact am []
 repeat' ((first|refine ae ?_|refine pif ?_ ?_<;>intro h<;>try exact pN h)<;>push_cast [O,U])
 (apply ap (α:=Nat) 7 [74] (fun i=>[(3,.c (.v (.int .i64 i)))]) (fun i=>[]) (fun i=>i≤l.length∧ge l i=true) (fun i=>l.length - i) (0);(focus ((try push_cast [O,U]);rfl));(focus exact ⟨Nat.zero_le _,rfl⟩);(focus ((refine weak_fg ?_;try push_cast [O,U]);(try (rfl)))));rintro i ⟨hi,hok⟩;push_cast [O,U];by_cases hlt:i < l.length
 case neg =>
  have hi2:i=l.length:=ac;subst hi2;have hb:jN l=true:=by unfold jN;rw [decide_eq_true hlen,hok];rfl
  rw [hb];repeat' ((first|refine ae ?_|refine pif ?_ ?_<;>intro h<;>try exact pN h)<;>push_cast [O,U])
  exact am []
 have hmem:l.getD i default ∈ l:=by rw [ai l hlt];exact List.getElem_mem _
 have hno:=xw hlt;have hmf:=hm _ hmem;have hst:(aJ (l.take i) (l.getD i default).name).isNone=true → kb (l.getD i default)=true → ge l (i+1)=true:=fun h h2=>by rw [ge,hok,h,h2];rfl
 obtain ⟨m,hmm⟩:∃ m,l.getD i default=m:=⟨_,rfl⟩
 rw [hmm] at hno hst hmf;have hno2:kb m=false → jN l=false:=fun h=>hno (by rw [h,Bool.and_false])
 have hno3:(aJ (l.take i) m.name).isNone=false → jN l=false:=fun h=>hno (by rw [h,Bool.false_and])
 rw [rV] at hno2 hst;have c1:=de m.name hmf.name;have c2:=k7 m.needs hmf.l2 hmf.ne;have c3:=k7 m.pre hmf.l3 hmf.pr;have c4:=k7 m.post hmf.l4 hmf.po;have q1:=hmf.l1;obtain ⟨A,hA⟩:∃ A,((((validS m.name && fb m.needs) && fb m.pre) && fb m.post) && decide (m.aliases.length≤16))=A:=⟨_,rfl⟩
 rw [hA] at hno2 hst;cases A with
 | false =>
  have hb:=hno2 rfl;rw [hb];cases h1:validS m.name with
  | false =>
   rw [h1] at c1;repeat' ((first|(refine plE [] c1 ?_ ?_;focus (push_cast [O,U,hmm];done))|refine ae ?_|refine pif ?_ ?_<;>intro h<;>try exact pN h)<;>push_cast [O,U,hmm])
   exact am []
  | true =>
  cases h2:fb m.needs with
  | false =>
   rw [h1] at c1;rw [h2] at c2;repeat' ((first|(refine plE [] c1 ?_ ?_;focus (push_cast [O,U,hmm];done))|(refine plE [] c2 ?_ ?_;focus (push_cast [O,U,hmm];done))|refine ae ?_|refine pif ?_ ?_<;>intro h<;>try exact pN h)<;>push_cast [O,U,hmm])
   exact am []
  | true =>
  cases h3:fb m.pre with
  | false =>
   rw [h1] at c1;rw [h2] at c2;rw [h3] at c3;repeat' ((first|refine plE [] c1 ?_ ?_;focus (push_cast [O,U,hmm];done)|refine plE [] c2 ?_ ?_;focus (push_cast [O,U,hmm];done)|refine plE [] c3 ?_ ?_;focus (push_cast [O,U,hmm];done)|refine ae ?_|refine pif ?_ ?_<;>intro h<;>try exact pN h)<;>push_cast [O,U,hmm])
   exact am []
  | true =>
  cases h4:fb m.post with
  | false =>
   rw [h1] at c1;rw [h2] at c2;rw [h3] at c3;rw [h4] at c4;repeat' ((first|refine plE [] c1 ?_ ?_;focus (push_cast [O,U,hmm];done)|refine plE [] c2 ?_ ?_;focus (push_cast [O,U,hmm];done)|refine plE [] c3 ?_ ?_;focus (push_cast [O,U,hmm];done)|refine plE [] c4 ?_ ?_;focus (push_cast [O,U,hmm];done)|refine ae ?_|refine pif ?_ ?_<;>intro h<;>try exact pN h)<;>push_cast [O,U,hmm])
   exact am []
  | true =>
   rw [h1] at c1;rw [h2] at c2;rw [h3] at c3;rw [h4] at c4;rw [h1,h2,h3,h4] at hA;simp only [Bool.true_and,decide_eq_false_iff_not] at hA;have hA2:(16:Int) < (m.aliases.length:Int):=ac;repeat' ((first|refine plE [] c1 ?_ ?_;focus (push_cast [O,U,hmm,hA2];done)|refine plE [] c2 ?_ ?_;focus (push_cast [O,U,hmm,hA2];done)|refine plE [] c3 ?_ ?_;focus (push_cast [O,U,hmm,hA2];done)|refine plE [] c4 ?_ ?_;focus (push_cast [O,U,hmm,hA2];done)|refine ae ?_|refine pif ?_ ?_<;>intro h<;>try exact pN h)<;>push_cast [O,U,hmm,hA2])
   exact am []
 | true =>
  simp only [Bool.and_eq_true,decide_eq_true_eq] at hA;obtain ⟨⟨⟨⟨h1,h2⟩,h3⟩,h4⟩,h5⟩:=hA;rw [h1] at c1;rw [h2] at c2;rw [h3] at c3;rw [h4] at c4;repeat' ((first|refine plE [] c1 ?_ ?_;focus (push_cast [O,U,hmm];done)|refine plE [] c2 ?_ ?_;focus (push_cast [O,U,hmm];done)|refine plE [] c3 ?_ ?_;focus (push_cast [O,U,hmm];done)|refine plE [] c4 ?_ ?_;focus (push_cast [O,U,hmm];done)|refine ae ?_|refine pif ?_ ?_<;>intro h<;>try exact pN h)<;>push_cast [O,U,hmm])
  (apply ap (α:=Nat) 7 [74] (fun k=>[(5,.c (.v (.int .i64 k)))]) (fun k=>[]) (fun k=>k≤m.aliases.length∧(m.aliases.take k).any (fun p=>decide (cA p≠0))=false) (fun k=>m.aliases.length - k) (0);(focus ((try push_cast [O,U]);rfl));(focus exact ⟨Nat.zero_le _,rfl⟩);(focus ((refine weak_fg ?_;try push_cast [O,U]);(try (rfl)))));rintro k ⟨hk,hpre⟩;push_cast [O,U];by_cases hkl:k < m.aliases.length
  ·have hc:=pw (m.aliases.getD k default) (hmf.als _ (by rw [ai _ hkl];exact List.getElem_mem _));obtain ⟨v,hv⟩:∃ v,cA (m.aliases.getD k default)=v:=⟨_,rfl⟩
   rw [hv] at hc;by_cases h0:v=0
   ·have h0':(v == 0)=true:=by rw [h0];rfl
    subst h0;repeat' ((first|refine aK [] hc ?_|refine ae ?_|refine pif ?_ ?_<;>intro h<;>try exact pN h)<;>push_cast [O,U])
    exact ⟨k+1,⟨ac,jb hkl hpre (by rw [hv];rfl)⟩,aA,ac⟩
   ·have hany:=ja (p:=fun p=>decide (cA p≠0)) hkl (by simp only [hv];exact decide_eq_true h0);have hb:=hno2 (by rw [hany];rfl);rw [hb];repeat' ((first|(refine plE [] hc ?_ ?_;focus (push_cast [O,U,h0];done))|refine ae ?_|refine pif ?_ ?_<;>intro h<;>try exact pN h)<;>push_cast [O,U,h0])
    exact am []
  rw [List.take_of_length_le ac] at hpre;have hst2:(aJ (l.take i) m.name).isNone=true → ge l (i+1)=true:=fun h=>hst h (by rw [hpre];rfl)
  repeat' ((first|refine ae ?_|refine pif ?_ ?_<;>intro h<;>try exact pN h)<;>push_cast [O,U])
  (apply ap (α:=Nat) 7 [74] (fun j=>[(6,.c (.v (.int .i64 j)))]) (fun j=>[]) (fun j=>j≤i∧∀ x ∈ (l.take j),x.name≠m.name) (fun j=>i - j) (0);(focus ((try push_cast [O,U]);rfl));(focus exact ⟨Nat.zero_le _,fun x hx=>by simp at hx⟩);(focus ((refine weak_fg ?_;try push_cast [O,U]);(try (rfl)))));rintro j ⟨hj,hpre2⟩;push_cast [O,U];by_cases hji:j < i
  ·have hjl:j < l.length:=ac;have htk:l.take (j+1)=l.take j++[l.getD j default]:=by rw [List.take_succ_eq_append_getElem hjl,ai l hjl]
   have hin:l.getD j default ∈ l.take i:=by
    rw [ai l hjl];exact List.mem_take_iff_getElem.2 ⟨j,ac,rfl⟩
   obtain ⟨x,hx⟩:∃ x,l.getD j default=x:=⟨_,rfl⟩
   rw [hx] at htk hin;by_cases hn:x.name=m.name
   ·have hb:=hno3 (zi hin hn);rw [hb];repeat' ((first|(refine av 7 [74] ?_;apply ak;(focus kernel_rfl);(focus (simp only [aP,Nat.reduceAdd];(repeat' first|((first|refine pah 0 ?_|refine pah 1 ?_|refine pah 2 ?_|refine pah 3 ?_|refine pah 5 ?_|refine pah 7 ?_);push_cast [O,U,  hx,hn])|(refine pad ?_;first|with_reducible exact ao 7 [74] _|(refine weak_fg ?_;push_cast [O,U,  hx,hn]))|((first|refine pas [4] ?_|refine pas [6] ?_);push_cast [O,U,  hx,hn])|((first|refine pas [4,6] ?_);push_cast [O,U,  hx,hn];refine ⟨?_,?_⟩));done));push_cast [O,U,  hx,hn])|refine ae ?_|refine pif ?_ ?_<;>intro h<;>try exact pN h)<;>push_cast [O,U,hx,hn])
    exact am []
   ·have hn':=eq_false hn;repeat' ((first|(refine av 7 [74] ?_;apply ak;(focus kernel_rfl);(focus (simp only [aP,Nat.reduceAdd];(repeat' first|((first|refine pah 0 ?_|refine pah 1 ?_|refine pah 2 ?_|refine pah 3 ?_|refine pah 5 ?_|refine pah 7 ?_);push_cast [O,U,  hx,hn'])|(refine pad ?_;first|with_reducible exact ao 7 [74] _|(refine weak_fg ?_;push_cast [O,U,  hx,hn']))|((first|refine pas [4] ?_|refine pas [6] ?_);push_cast [O,U,  hx,hn'])|((first|refine pas [4,6] ?_);push_cast [O,U,  hx,hn'];refine ⟨?_,?_⟩));done));push_cast [O,U,  hx,hn'])|refine ae ?_|refine pif ?_ ?_<;>intro h<;>try exact pN h)<;>push_cast [O,U,hx,hn'])
    exact ⟨j+1,⟨ac,fun y hy=>by
     rw [htk] at hy;rcases List.mem_append.1 hy with hy|hy
     ·exact hpre2 y hy
     ·rw [List.mem_singleton.1 hy];exact hn⟩,aA,ac⟩
  have hji2:j=i:=ac;subst hji2;have hnx:=hst2 (rW hpre2);repeat' ((first|refine ae ?_|refine pif ?_ ?_<;>intro h<;>try exact pN h)<;>push_cast [O,U])
  exact ⟨j+1,⟨ac,hnx⟩,aA,ac⟩
theorem Ce (l:List Mod) (hl:l.length≤9223372036854775807) (hm:∀ m ∈ l,rF m):ah prog 17 [.c (.sl 6 (l.map Mod.d))] [] fun r os=>r = .two (.agg (Ker.re ⟨[],if jN l then l else [],[],[],0⟩)) (.c (.v (.int .i64 (if jN l then 0 else 54))))∧os=[]:=by
 have hc:=sO l hl hm;refine aw func17 ntmps17 results17 ?_;push_cast [O,U];cases hb:jN l with
 | true =>
  rw [hb] at hc;repeat' ((first|refine aK [] hc ?_|refine au ?_|refine pif ?_ ?_<;>intro h<;>try exact pN h)<;>push_cast [O,U])
  (refine K9 [] ?_;push_cast [O,U])
  done
 | false =>
  rw [hb] at hc;repeat' ((first|refine aK [] hc ?_|refine au ?_|refine pif ?_ ?_<;>intro h<;>try exact pN h)<;>push_cast [O,U])
  (refine K9 [] ?_;push_cast [O,U])
  done
set_option maxRecDepth 20000
def nN (l:List Atr) (n v:ByteArray) (o:List Atr):Prop:=∀ a ∈ o,a ∈ l∨a=⟨n,v⟩
theorem nN.nil {l:List Atr} {n v:ByteArray}:nN l n v []:=fun a ha=>by simp at ha
theorem nN.snoc {l:List Atr} {n v:ByteArray} {o:List Atr} (h:nN l n v o) {x:Atr} (hx:x ∈ l∨x=⟨n,v⟩):nN l n v (o++[x]):=fun a ha=>by
 rcases List.mem_append.1 ha with ha|ha
 ·exact h a ha
 ·rw [List.mem_singleton] at ha;rw [ha];exact hx
theorem rX {α:Type} [Inhabited α] {l:List α} {k:Nat} (h:k < l.length):l.getD k default ∈ l:=by rw [ai l h];exact List.getElem_mem _
set_option maxHeartbeats 2000000 in
theorem qq (l:List Atr) (n v:ByteArray) (hb:l.length≤1000000) :
  ah prog 85 [.c (.sl 2 (l.map Atr.d)),.c (.v (.string n)),.c (.v (.string v))] [] fun r os=>∃ o:List Atr,(o.length≤l.length+1∧nN l n v o)∧r = .c (.sl 2 (o.map Atr.d))∧os=[]:=by
 refine aw func85 ntmps85 results85 ?_;push_cast [O,U];have cB:aH 10 []:=trivial;repeat' ((first|refine ae ?_|refine pif ?_ ?_<;>intro h<;>try exact pN h)<;>push_cast [O,U])
 refine aF (dm 7 97 2 ac (by push_cast [O,U])) ?_;push_cast [O,U];(apply ap (α:=Nat × List Atr × Bool) 10 [] (fun x=>[(9,.c (.v (.int .i64 x.1))),(8,.c (.v (.bool x.2.2))),(7,.c (.own 0 x.2.1.length))]) (fun x=>[(0,.arr 97 2 (x.2.1.map Atr.d))]) (fun x=>x.1≤l.length∧(x.2.2=false → x.2.1.length≤x.1)∧x.2.1.length≤x.1+1∧nN l n v x.2.1) (fun x=>l.length - x.1) ((0,[],decide (v=⟨#[]⟩)));(focus ((try push_cast [O,U]);rfl));(focus exact ⟨Nat.zero_le _,fun _=>Nat.le_refl _,Nat.zero_le _,nN.nil⟩);(focus ((refine weak_fg ?_;try push_cast [O,U]))));rintro ⟨k,o,done⟩ ⟨hk,h1,h2,h3⟩;simp only at hk h1 h2 h3 ⊢;push_cast [O,U];by_cases hlt:k < l.length
 ·have hm:=rX hlt;cases done
  ·have h1':=h1 rfl;have hn1:(o++[(⟨n,v⟩:Atr)]).map Atr.d=o.map Atr.d++[[.v (.string n),.v (.string v)]]:=by simp [Atr.d]
   cases hc:bh (l.getD k default).name n
   ·by_cases hn:(l.getD k default).name=n
    ·rw [hn] at hc;repeat' ((first|refine ae ?_|refine pif ?_ ?_<;>intro h<;>try exact pN h)<;>push_cast [O,U,hc,hn])
     exact ⟨(k+1,o++[⟨n,v⟩],true),⟨by simp only;omega,by simp,by simp only [List.length_append,List.length_singleton];omega,h3.snoc (.inr rfl)⟩,aA,by simp only;omega⟩
    ·repeat' ((first|refine ae ?_|refine pif ?_ ?_<;>intro h<;>try exact pN h)<;>push_cast [O,U,hc,hn])
     exact ⟨(k+1,o++[⟨n,v⟩]++[l.getD k default],true),⟨by simp only;omega,by simp,by simp only [List.length_append,List.length_singleton];omega,(h3.snoc (.inr rfl)).snoc (.inl hm)⟩,aA,by simp only;omega⟩
   ·by_cases hn:(l.getD k default).name=n
    ·rw [hn] at hc;exact absurd (dJ hc) (fun h=>h rfl)
    ·repeat' ((first|refine ae ?_|refine pif ?_ ?_<;>intro h<;>try exact pN h)<;>push_cast [O,U,hc,hn])
     exact ⟨(k+1,o++[l.getD k default],false),⟨by simp only;omega,fun _=>by simp only [List.length_append,List.length_singleton];omega,by simp only [List.length_append,List.length_singleton];omega,h3.snoc (.inl hm)⟩,aA,by simp only;omega⟩
  ·by_cases hn:(l.getD k default).name=n
   ·repeat' ((first|refine ae ?_|refine pif ?_ ?_<;>intro h<;>try exact pN h)<;>push_cast [O,U,hn])
    exact ⟨(k+1,o,true),⟨by simp only;omega,by simp,by simp only;omega,h3⟩,aA,by simp only;omega⟩
   ·repeat' ((first|refine ae ?_|refine pif ?_ ?_<;>intro h<;>try exact pN h)<;>push_cast [O,U,hn])
    exact ⟨(k+1,o++[l.getD k default],true),⟨by simp only;omega,by simp,by simp only [List.length_append,List.length_singleton];omega,h3.snoc (.inl hm)⟩,aA,by simp only;omega⟩
 ·have hk2:k=l.length:=ac;cases done
  ·have h1':=h1 rfl;repeat' ((first|refine ae ?_|refine pif ?_ ?_<;>intro h<;>try exact pN h)<;>push_cast [O,U])
   (refine K9 [] ?_;push_cast [O,U]);exact ⟨_,_,aE _,aB _,o++[⟨n,v⟩],⟨by simp only [List.length_append,List.length_singleton];omega,h3.snoc (.inr rfl)⟩,by push_cast [O,U],rfl⟩
  ·repeat' ((first|refine ae ?_|refine pif ?_ ?_<;>intro h<;>try exact pN h)<;>push_cast [O,U])
   (refine K9 [] ?_;push_cast [O,U]);exact ⟨_,_,aE _,aB _,o,⟨ac,h3⟩,by push_cast [O,U],rfl⟩
def jO (o:List Atr):Prop:=∀ a ∈ o,a.name.size≤100∧a.value.size≤100
theorem jO.nil:jO []:=fun a ha=>by simp at ha
theorem jO.set {l o:List Atr} {n v:ByteArray} (hl:jO l) (ho:nN l n v o) (hn:n.size≤100) (hv:v.size≤100):jO o:=fun a ha=>by
 rcases ho a ha with h|h
 ·exact hl a h
 ·rw [h];exact ⟨hn,hv⟩
set_option maxHeartbeats 2000000 in
theorem Cf (L:List Int) (k:Nat) (hk:k < 100000) (hL:∀ x ∈ L,-9223372036854775808≤x∧x≤9223372036854775807) (hLl:L.length≤9223372036854775807) :
  ah prog 84 [.c (.ptr 0 0)] [tape L k] fun r os=>∃ (o:List Atr) (k':Nat),(o.length≤3∧jO o)∧k'≤k+7∧r = .c (.sl 2 (o.map Atr.d))∧os=[tape L k']:=by
 refine aw func84 ntmps84 results84 ?_;push_cast [O,U];have cB:aH 5 []:=trivial;repeat' ((first|(refine plc [0] (cP L k 4 ac af af hL hLl) ?_ ?_;push_cast [O,U];rintro r os ⟨v,⟨va,vb⟩,rfl,rfl⟩)|refine ae ?_|refine pif ?_ ?_<;>intro h<;>try exact pN h)<;>push_cast [O,U])
 obtain ⟨m,rfl⟩:∃ m:Nat,v=(m:Int):=⟨v.toNat,ac⟩
 (apply ap (α:=Nat × List Atr × Nat) 5 [] (fun x=>[(4,.c (.v (.int .i64 x.1))),(3,.c (.sl 2 (x.2.1.map Atr.d)))]) (fun x=>[(0,tape L x.2.2)]) (fun x=>x.2.1.length+x.1≤3∧jO x.2.1∧x.2.2+2 * x.1≤k+7) (fun x=>x.1) ((m,[],k+1));(focus ((try push_cast [O,U]);rfl));(focus exact ⟨by simp only [List.length_nil];omega,jO.nil,by simp only;omega⟩);(focus ((refine weak_fg ?_;try push_cast [O,U]))));rintro ⟨j,o,q⟩ ⟨h1,h2,h3⟩;simp only at h1 h2 h3;push_cast [O,U];by_cases hlt:0 < j
 case neg =>
  have hj:j=0:=ac;subst hj;repeat' ((first|refine ae ?_|refine pif ?_ ?_<;>intro h<;>try exact pN h)<;>push_cast [O,U])
  (refine K9 [0] ?_;push_cast [O,U]);exact ⟨_,_,aE _,aB _,o,q,⟨ac,h2⟩,ac,rfl,rfl⟩
 have h4:(0:Int) < (j:Int):=ac;have h5:(j:Int) - 1=((j - 1:Nat):Int):=ac;have o1:=c9 L q [⟨#[115,105,122,101]⟩,⟨#[118,101,110,100,111,114]⟩,⟨#[97,100,100,114,101,115,115]⟩,⟨#[105,110,100,101,120]⟩,⟨#[115,108,111,116]⟩] ac af af hL hLl;have o2:=c9 L (q+1) [⟨#[49]⟩,⟨#[50]⟩,⟨#[97,99,109,101]⟩,⟨#[97,97,58,98,98]⟩] ac af af hL hLl;repeat' ((first|(refine plc [0] (o1) ?_ ?_;push_cast [O,U,h4];rintro r os ⟨n,nm,rfl,rfl⟩)|(refine plc [0] (o2) ?_ ?_;push_cast [O,U,h4];rintro r os ⟨v,vm,rfl,rfl⟩)|(refine plc [] (qq o n v ac) ?_ ?_;push_cast [O,U,h4];rintro r os ⟨o',⟨s1,s2⟩,rfl,rfl⟩)|refine ae ?_|refine pif ?_ ?_<;>intro h<;>try exact pN h)<;>push_cast [O,U,h4])
 exact ⟨(j - 1,o',q+1+1),⟨by simp only;omega,h2.set s2 (cJ af nm) (cJ af vm),by simp only;omega⟩,by rw [← h5];(refine weak_fg ?_;push_cast [O,U]),by simp only;omega⟩
theorem lc:ah prog 51 [] [] fun r os=>(∃ l:List ByteArray,l.length=9∧(∀ s ∈ l,s.size≤100)∧r = .c (.sl 1 (l.map aU)))∧os=[]:=by
 refine aw func51 ntmps51 results51 ?_;push_cast [O,U];repeat' ((first|refine au ?_|refine pif ?_ ?_<;>intro h<;>try exact pN h)<;>push_cast [O,U])
 (refine K9 [] ?_;push_cast [O,U]);have e:∀ (a0 a1 a2 a3 a4 a5 a6 a7 a8:ByteArray),([a0,a1,a2,a3,a4,a5,a6,a7,a8].all fun s=>decide (s.size≤100))=true →
   ∃ l:List ByteArray,l.length=9∧(∀ s ∈ l,s.size≤100)∧PV.c (.sl 1 [[D.v (.string a0)],[D.v (.string a1)],[D.v (.string a2)],[D.v (.string a3)],[D.v (.string a4)],[D.v (.string a5)],[D.v (.string a6)],[D.v (.string a7)],[D.v (.string a8)]]) = .c (.sl 1 (l.map aU)) :=
  fun a0 a1 a2 a3 a4 a5 a6 a7 a8 h=>⟨[a0,a1,a2,a3,a4,a5,a6,a7,a8],rfl,fun s hs=>cJ h hs,rfl⟩
 exact ⟨_,_,aE _,aB _,e _ _ _ _ _ _ _ _ _ af,rfl⟩
end Go.Proofs.YtmbbkfffcflfcaaGreatDoor
