/- What the program computes, and the plain laws of it, part 38. -/
import Derived.WideKeyEntry
import Derived.Lib.ItoaNum
import Derived.Test.YtmbbkfffcflfcaaGreatDoorS37
namespace Go.Proofs.YtmbbkfffcflfcaaGreatDoor
attribute [local irreducible] PL QL PWPr PCalls Weak RetK Kontr PA PCallsG
open Go.RowKit
open IntWalk renaming iteOmega → O, toNatUp → U
set_option linter.unusedVariables false
set_option linter.unusedSimpArgs false
set_option maxRecDepth 20000
theorem kloaded_pure (k:Ker) (hl:k.loaded.length≤1000000):PCalls Tryz.prog 22 [.c (.ptr 0 0)] (kerO k) fun r os=>r = .c (.sl 1 (k.loaded.map strD))∧os=kerO k:=by
 have hc:=clone_pure k.loaded (by omega)
 have htk:=List.take_of_length_le (l:=k.loaded.map strD) (i:=k.loaded.length) (by simp)
 refine pcalls_of Tryz.func22 rfl (by simp [Tryz.ntmps22]) ?_
 rw [Tryz.ntmps22,Tryz.results22]
 push_cast [O,U]
 repeat' ((first|(refine pl_call2 true [] rfl rfl (by kernel_rfl) (hc) ?_ ?_ ?_;push_cast [O,U,htk];(intro _ r os;rintro ⟨rfl,rfl⟩;push_cast [O,U,htk]);rintro r os ⟨rfl,rfl⟩;refine pl_of_pops ?_)|refine pG ?_|refine pQ ?_|refine pU ?_|refine pif ?_ ?_<;>intro h<;>try exact pN h)<;>push_cast [O,U,htk])
 (refine retK_of [0,1,2] ?_;push_cast [O,U,htk])
def since (k:Ker) (n:Int):Nat:=if n≤0 then 0 else if n≤k.evs.length then n.toNat else k.evs.length
set_option maxHeartbeats 4000000 in
theorem kevents_pure (k:Ker) (n:Int) (hn : -9223372036854775808≤n∧n≤9223372036854775807) (hl:k.evs.length≤1000000):PCalls Tryz.prog 26 [.c (.ptr 0 0),.c (.v (.int .i64 n))] (kerO k) fun r os=>r = .c (.sl 5 ((k.evs.drop (since k n)).map Evt.d))∧os=kerO k:=by
 have hc:=cloneE_pure (k.evs.drop (since k n)) (by rw [List.length_drop];omega)
 have hls:List.take (k.evs.length - since k n) ((k.evs.drop (since k n)).map Evt.d)=(k.evs.drop (since k n)).map Evt.d:=List.take_of_length_le (by rw [List.length_map,List.length_drop];exact Nat.le_refl _)
 have hdr:List.drop (since k n) (k.evs.map Evt.d)=(k.evs.drop (since k n)).map Evt.d:=by rw [List.map_drop]
 have hln:(k.evs.drop (since k n)).length=k.evs.length - since k n:=List.length_drop
 rw [hln] at hc
 refine pcalls_of Tryz.func26 rfl (by simp [Tryz.ntmps26]) ?_
 rw [Tryz.ntmps26,Tryz.results26]
 push_cast [O,U]
 have cB:CutB 5 []:=trivial
 by_cases h0:n≤0
 ·have hm:since k n=0:=by unfold since;rw [if_pos h0]
  rw [hm] at hc hls hdr hln ⊢
  rw [List.drop_zero] at hc hls hdr hln ⊢
  rw [Nat.sub_zero] at hc hls hln
  by_cases h1:n < 0
  ·repeat' ((first|(refine pwp_cut 5 [] ?_;apply pwp_drawn_to;(focus kernel_rfl);(focus (simp only [List.length_cons,List.length_nil,Nat.reduceAdd];(repeat' first|(refine pl_call2 true [] rfl rfl (by kernel_rfl) (hc) ?_ ?_ ?_;push_cast [O,U,  h1,hls];(intro _ r os;rintro ⟨rfl,rfl⟩;push_cast [O,U,  h1,hls]);rintro r os ⟨rfl,rfl⟩;refine pl_of_pops ?_;push_cast [O,U,  h1,hls])|((first|refine pah 0 ?_|refine pah 1 ?_|refine pah 2 ?_|refine pah 4 ?_|refine pah 5 ?_|refine pah 6 ?_|refine pah 7 ?_|refine pah 8 ?_|refine pah 10 ?_|refine pah 11 ?_|refine pah 12 ?_|refine pah 14 ?_);push_cast [O,U,  h1,hls])|(refine pad ?_;first|with_reducible exact weak_cutS 5 [] _|(refine weak_fg ?_;push_cast [O,U,  h1,hls]))|((first|refine pas [3] ?_|refine pas [9] ?_|refine pas [13] ?_);push_cast [O,U,  h1,hls])|((first|refine pas [3,9] ?_);push_cast [O,U,  h1,hls];refine ⟨?_,?_⟩));done));push_cast [O,U,  h1,hls])|refine pC ?_|refine pQC ?_|refine pU ?_|refine pif ?_ ?_<;>intro h<;>try exact pN h)<;>push_cast [O,U,h1,hls])
   (refine retK_of [0,1,2] ?_;push_cast [O,U,hls])
  ·have h2:n=0:=by omega
   subst h2
   repeat' ((first|(refine pwp_cut 5 [] ?_;apply pwp_drawn_to;(focus kernel_rfl);(focus (simp only [List.length_cons,List.length_nil,Nat.reduceAdd];(repeat' first|(refine pl_call2 true [] rfl rfl (by kernel_rfl) (hc) ?_ ?_ ?_;push_cast [O,U,  hls];(intro _ r os;rintro ⟨rfl,rfl⟩;push_cast [O,U,  hls]);rintro r os ⟨rfl,rfl⟩;refine pl_of_pops ?_;push_cast [O,U,  hls])|((first|refine pah 0 ?_|refine pah 1 ?_|refine pah 2 ?_|refine pah 4 ?_|refine pah 5 ?_|refine pah 6 ?_|refine pah 7 ?_|refine pah 8 ?_|refine pah 10 ?_|refine pah 11 ?_|refine pah 12 ?_|refine pah 14 ?_);push_cast [O,U,  hls])|(refine pad ?_;first|with_reducible exact weak_cutS 5 [] _|(refine weak_fg ?_;push_cast [O,U,  hls]))|((first|refine pas [3] ?_|refine pas [9] ?_|refine pas [13] ?_);push_cast [O,U,  hls])|((first|refine pas [3,9] ?_);push_cast [O,U,  hls];refine ⟨?_,?_⟩));done));push_cast [O,U,  hls])|refine pC ?_|refine pQC ?_|refine pU ?_|refine pif ?_ ?_<;>intro h<;>try exact pN h)<;>push_cast [O,U,hls])
   (refine retK_of [0,1,2] ?_;push_cast [O,U,hls])
 have h1:¬ n < 0:=by omega
 by_cases h2:n≤k.evs.length
 ·obtain ⟨m,rfl⟩:∃ m:Nat,n=(m:Int):=⟨n.toNat,by omega⟩
  have hm:since k (m:Int)=m:=by unfold since;rw [if_neg h0,if_pos h2];exact Int.toNat_natCast m
  rw [hm] at hc hls hdr hln ⊢
  repeat' ((first|(refine pwp_cut 5 [] ?_;apply pwp_drawn_to;(focus kernel_rfl);(focus (simp only [List.length_cons,List.length_nil,Nat.reduceAdd];(repeat' first|(refine pl_call2 true [] rfl rfl (by kernel_rfl) (hc) ?_ ?_ ?_;push_cast [O,U,  h1,hls,hdr];(intro _ r os;rintro ⟨rfl,rfl⟩;push_cast [O,U,  h1,hls,hdr]);rintro r os ⟨rfl,rfl⟩;refine pl_of_pops ?_;push_cast [O,U,  h1,hls,hdr])|((first|refine pah 0 ?_|refine pah 1 ?_|refine pah 2 ?_|refine pah 4 ?_|refine pah 5 ?_|refine pah 6 ?_|refine pah 7 ?_|refine pah 8 ?_|refine pah 10 ?_|refine pah 11 ?_|refine pah 12 ?_|refine pah 14 ?_);push_cast [O,U,  h1,hls,hdr])|(refine pad ?_;first|with_reducible exact weak_cutS 5 [] _|(refine weak_fg ?_;push_cast [O,U,  h1,hls,hdr]))|((first|refine pas [3] ?_|refine pas [9] ?_|refine pas [13] ?_);push_cast [O,U,  h1,hls,hdr])|((first|refine pas [3,9] ?_);push_cast [O,U,  h1,hls,hdr];refine ⟨?_,?_⟩));done));push_cast [O,U,  h1,hls,hdr])|refine pC ?_|refine pQC ?_|refine pU ?_|refine pif ?_ ?_<;>intro h<;>try exact pN h)<;>push_cast [O,U,h1,hls,hdr])
  (refine retK_of [0,1,2] ?_;push_cast [O,U,hls,hdr])
 ·have hm:since k n=k.evs.length:=by unfold since;rw [if_neg h0,if_neg h2]
  rw [hm] at hc ⊢
  have h3:(k.evs.length:Int) < n:=by omega
  rw [Nat.sub_self,List.drop_length,List.map_nil] at hc
  rw [List.drop_length,List.map_nil]
  have hdr2:List.drop k.evs.length (k.evs.map Evt.d)=[]:=List.drop_of_length_le (by simp)
  by_cases hz:k.evs.length=0
  ·have hn0:k.evs=[]:=List.eq_nil_of_length_eq_zero hz
   rw [hn0] at h3
   have h3:(0:Int) < n:=h3
   repeat' ((first|(refine pwp_cut 5 [] ?_;apply pwp_drawn_to;(focus kernel_rfl);(focus (simp only [List.length_cons,List.length_nil,Nat.reduceAdd];(repeat' first|(refine pl_call2 true [] rfl rfl (by kernel_rfl) (hc) ?_ ?_ ?_;push_cast [O,U,  h1,h3,hn0];(intro _ r os;rintro ⟨rfl,rfl⟩;push_cast [O,U,  h1,h3,hn0]);rintro r os ⟨rfl,rfl⟩;refine pl_of_pops ?_;push_cast [O,U,  h1,h3,hn0])|((first|refine pah 0 ?_|refine pah 1 ?_|refine pah 2 ?_|refine pah 4 ?_|refine pah 5 ?_|refine pah 6 ?_|refine pah 7 ?_|refine pah 8 ?_|refine pah 10 ?_|refine pah 11 ?_|refine pah 12 ?_|refine pah 14 ?_);push_cast [O,U,  h1,h3,hn0])|(refine pad ?_;first|with_reducible exact weak_cutS 5 [] _|(refine weak_fg ?_;push_cast [O,U,  h1,h3,hn0]))|((first|refine pas [3] ?_|refine pas [9] ?_|refine pas [13] ?_);push_cast [O,U,  h1,h3,hn0])|((first|refine pas [3,9] ?_);push_cast [O,U,  h1,h3,hn0];refine ⟨?_,?_⟩));done));push_cast [O,U,  h1,h3,hn0])|refine pC ?_|refine pQC ?_|refine pU ?_|refine pif ?_ ?_<;>intro h<;>try exact pN h)<;>push_cast [O,U,h1,h3,hn0])
   (refine retK_of [0,1,2] ?_;push_cast [O,U,hn0])
  ·repeat' ((first|(refine pwp_cut 5 [] ?_;apply pwp_drawn_to;(focus kernel_rfl);(focus (simp only [List.length_cons,List.length_nil,Nat.reduceAdd];(repeat' first|(refine pl_call2 true [] rfl rfl (by kernel_rfl) (hc) ?_ ?_ ?_;push_cast [O,U,  h1,h3,hz,hdr2];(intro _ r os;rintro ⟨rfl,rfl⟩;push_cast [O,U,  h1,h3,hz,hdr2]);rintro r os ⟨rfl,rfl⟩;refine pl_of_pops ?_;push_cast [O,U,  h1,h3,hz,hdr2])|((first|refine pah 0 ?_|refine pah 1 ?_|refine pah 2 ?_|refine pah 4 ?_|refine pah 5 ?_|refine pah 6 ?_|refine pah 7 ?_|refine pah 8 ?_|refine pah 10 ?_|refine pah 11 ?_|refine pah 12 ?_|refine pah 14 ?_);push_cast [O,U,  h1,h3,hz,hdr2])|(refine pad ?_;first|with_reducible exact weak_cutS 5 [] _|(refine weak_fg ?_;push_cast [O,U,  h1,h3,hz,hdr2]))|((first|refine pas [3] ?_|refine pas [9] ?_|refine pas [13] ?_);push_cast [O,U,  h1,h3,hz,hdr2])|((first|refine pas [3,9] ?_);push_cast [O,U,  h1,h3,hz,hdr2];refine ⟨?_,?_⟩));done));push_cast [O,U,  h1,h3,hz,hdr2])|refine pC ?_|refine pQC ?_|refine pU ?_|refine pif ?_ ?_<;>intro h<;>try exact pN h)<;>push_cast [O,U,h1,h3,hz,hdr2])
   (refine retK_of [0,1,2] ?_;push_cast [O,U])
set_option maxHeartbeats 4000000 in
theorem ktree_pure (k:Ker) (hT:TreeV k.tree):PCalls Tryz.prog 20 [.c (.ptr 0 0)] (kerO k) fun r os=>r = .agg (trE k.tree)∧os=kerO k:=by
 have hkl:=hT.len
 refine pcalls_of Tryz.func20 rfl (by simp [Tryz.ntmps20]) ?_
 rw [Tryz.ntmps20,Tryz.results20]
 push_cast [O,U]
 have cB:CutB 6 [10,11,12]:=trivial
 repeat' ((first|refine pC ?_|refine pQC ?_|refine pU ?_|refine pif ?_ ?_<;>intro h<;>try exact pN h)<;>push_cast [O,U])
 refine pwp_weak (weak_adopt_box 4 0 53 10 (by omega) 41 [.v (.slice none 0 0)] rfl rfl) ?_
 push_cast [O,U]
 (apply pwp_loop3 (α:=Nat) 6 [10,11,12] (fun i=>[(12,.c (.v (.int .i64 i)))]) (fun i=>[(4,.box 41 [.own 5 i]),(5,.arr 53 10 ((k.tree.take i).map Dev.d))]) (fun i=>i≤k.tree.length) (fun i=>k.tree.length - i) (0);(focus ((try push_cast [O,U]);rfl));(focus exact (Nat.zero_le _));(focus ((refine weak_fg ?_;try push_cast [O,U]);(try (rfl)))))
 intro i hi
 push_cast [O,U]
 by_cases hlt:i < k.tree.length
 ·have hm:k.tree.getD i default ∈ k.tree:=by rw [getD_lt _ hlt];exact List.getElem_mem _
  have hc:=cloneA_pure (k.tree.getD i default).attrs (by have:=(hT.small hm).att;omega)
  have htk:k.tree.take (i+1)=k.tree.take i++[k.tree.getD i default]:=by rw [List.take_succ_eq_append_getElem hlt,getD_lt _ hlt]
  have htl:(k.tree.take i).length=i:=by rw [List.length_take];omega
  obtain ⟨u,hu⟩:∃ u,k.tree.take i=u:=⟨_,rfl⟩
  obtain ⟨d,hd⟩:∃ d,k.tree.getD i default=d:=⟨_,rfl⟩
  rw [hu] at htk htl ⊢
  rw [hd] at hc htk
  have hta:=List.take_of_length_le (l:=d.attrs.map Atr.d) (i:=d.attrs.length) (by simp)
  repeat' ((first|(refine pl_call2 false [] rfl rfl (by kernel_rfl) hc ?_ nofun ?_;push_cast [O,U,htl,hd,hta];rintro r os ⟨rfl,rfl⟩;refine pl_weak (weak_frz 7 (by omega)) ?_;push_cast [O,U,htl,hd,hta];refine pl_of_pops ?_)|refine pC ?_|refine pQC ?_|refine pU ?_|refine pif ?_ ?_<;>intro h<;>try exact pN h)<;>push_cast [O,U,htl,hd,hta])
  exact ⟨i+1,by omega,by (refine weak_fg ?_;push_cast [O,U,htk]),by omega⟩
 ·have hi2:i=k.tree.length:=by omega
  subst hi2
  rw [List.take_length]
  repeat' ((first|refine pC ?_|refine pQC ?_|refine pU ?_|refine pif ?_ ?_<;>intro h<;>try exact pN h)<;>push_cast [O,U])
  (refine retK_of [0,1,2] ?_;push_cast [O,U])
end Go.Proofs.YtmbbkfffcflfcaaGreatDoor
namespace Go.Proofs.YtmbbkfffcflfcaaGreatDoor
attribute [local irreducible] PL QL PWPr PCalls Weak RetK Kontr PA
open Go.RowKit
open IntWalk renaming iteOmega → O, toNatUp → U
set_option linter.unusedVariables false
set_option linter.unusedSimpArgs false
set_option maxRecDepth 20000
def newOk (l:List Mod):Nat → Bool
 | 0=>true
 | i+1=>newOk l i && ((modOf (l.take i) (l.getD i default).name).isNone && modB (l.getD i default))
def newB (l:List Mod):Bool:=decide (l.length≤128) && newOk l l.length
theorem newOk_le {l:List Mod} {i j:Nat} (h:newOk l j=true) (hij:i≤j):newOk l i=true:=by
 induction j with
 | zero=>rw [show i=0 by omega];rfl
 | succ j ih =>
  rw [newOk,Bool.and_eq_true] at h
  rcases Nat.lt_or_ge i (j+1) with h1|h1
  ·exact ih h.1 (by omega)
  ·rw [show i=j+1 by omega,newOk,Bool.and_eq_true];exact h
theorem newOk_no {l:List Mod} {i:Nat} (hi:i < l.length) (h:((modOf (l.take i) (l.getD i default).name).isNone && modB (l.getD i default))=false):newB l=false:=by
 unfold newB
 cases hn:newOk l l.length with
 | false=>simp
 | true =>
  have:=newOk_le hn (show i+1≤l.length by omega)
  rw [newOk,h] at this
  simp at this
def newO (l:List Mod):List Ob:=[.box 87 [.v (.slice none 0 0),.own 1 l.length,.v (.slice none 0 0),.v (.slice none 0 0),.v (.int .i64 0)],.arr 33 6 (l.map Mod.d)]
attribute [push_cast] newO
theorem kmodN_pure (l:List Mod) (n:ByteArray) (hl:l.length≤1000000):PCalls Tryz.prog 44 [.c (.ptr 0 0),.c (.v (.string n))] (newO l) fun r os=>r = .two (.agg ((modOf l n).getD noMod).e) (.c (.v (.bool ((modOf l n).isSome))))∧os=newO l:=by
 have hi:=indexFuncM_pure l (by omega) 72 [0] [.box 9 [.v (.string n)]] (fun m=>decide (m.name=n)) ⟨by kernel_rfl,fun x _=>kmod1_pure x n⟩
 have htk:=List.take_of_length_le (l:=l.map Mod.d) (i:=l.length) (by simp)
 refine pcalls_of Tryz.func44 rfl (by simp [Tryz.ntmps44]) ?_
 rw [Tryz.ntmps44,Tryz.results44]
 push_cast [O,U]
 repeat' ((first|refine pG ?_|refine pQ ?_|refine pU ?_|refine pif ?_ ?_<;>intro h<;>try exact pN h)<;>push_cast [O,U])
 (refine pl_call2 true [2] rfl rfl (by kernel_rfl) hi ?_ ?_ ?_;push_cast [O,U,htk];(intro _ r os;rintro ⟨j,hk,rfl,rfl⟩;push_cast [O,U]);rintro r os ⟨j,hk,rfl,rfl⟩)
 rcases hk with ⟨rfl,hn⟩|⟨i,rfl,hi2,hq,hpre⟩
 ·have hR:=mod_no hn
  push_cast [O,U]
  refine pl_of_pops ?_
  push_cast [O,U]
  repeat' ((first|refine pG ?_|refine pQ ?_|refine pU ?_|refine pif ?_ ?_<;>intro h<;>try exact pN h)<;>push_cast [O,U])
  (refine retK_of [0,1] ?_;push_cast [O,U,hR,Option.getD_none,Option.isSome_none,noMod])
  repeat' (first|exact rfl|exact leOs_refl _|exact trivial|refine ⟨?_,?_⟩)
 ·have hR:=mod_at hi2 hq hpre
  push_cast [O,U]
  refine pl_of_pops ?_
  push_cast [O,U]
  repeat' ((first|refine pG ?_|refine pQ ?_|refine pU ?_|refine pif ?_ ?_<;>intro h<;>try exact pN h)<;>push_cast [O,U])
  (refine retK_of [0,1] ?_;push_cast [O,U,hR,Option.getD_some,Option.isSome_some])
  repeat' (first|exact rfl|exact leOs_refl _|exact trivial|refine ⟨?_,?_⟩)
set_option maxHeartbeats 16000000 in
theorem knew_pure (l:List Mod) (hl:l.length≤9223372036854775807) (hm:∀ m ∈ l,ModFit m):PCalls Tryz.prog 16 [.c (.sl 6 (l.map Mod.d))] [] fun r os=>if newB l=true then r = .two (.c (.ptr 0 0)) (.c (.v (.int .i64 0)))∧os=kerO ⟨[],l,[],[],0⟩ else r = .two (.c (.v (.pointer none))) (.c (.v (.int .i64 54)))∧os=[]:=by
 refine pcalls_of Tryz.func16 rfl (by simp [Tryz.ntmps16]) ?_
 rw [Tryz.ntmps16,Tryz.results16]
 push_cast [O,U]
 have cB:CutB 9 [14,15,16]:=trivial
 by_cases hlen:l.length≤128
 case neg =>
  have hb:newB l=false:=by unfold newB;rw [decide_eq_false hlen];rfl
  have hl2:(128:Int) < (l.length:Int):=by omega
  rw [hb]
  repeat' ((first|refine pC ?_|refine pQC ?_|refine pU ?_|refine pif ?_ ?_<;>intro h<;>try exact pN h)<;>push_cast [O,U,hl2])
  (refine retK_of [] ?_;push_cast [O,U])
 repeat' ((first|refine pC ?_|refine pQC ?_|refine pU ?_|refine pif ?_ ?_<;>intro h<;>try exact pN h)<;>push_cast [O,U])
 refine pwp_weak (weak_adopt_box 0 1 33 6 (by omega) 87 [.v (.slice none 0 0),.v (.slice none 0 0),.v (.slice none 0 0),.v (.slice none 0 0),.v (.int .i64 0)] rfl rfl) ?_
 push_cast [O,U]
 (apply pwp_loop3 (α:=Nat) 9 [14,15,16] (fun i=>[(16,.c (.v (.int .i64 i)))]) (fun i=>[(0,.box 87 [.v (.slice none 0 0),.own 1 i,.v (.slice none 0 0),.v (.slice none 0 0),.v (.int .i64 0)]),(1,.arr 33 6 ((l.take i).map Mod.d))]) (fun i=>i≤l.length∧newOk l i=true) (fun i=>l.length - i) (0);(focus ((try push_cast [O,U]);rfl));(focus exact ⟨Nat.zero_le _,rfl⟩);(focus ((refine weak_fg ?_;try push_cast [O,U]);(try (rfl)))))
 rintro i ⟨hi,hok⟩
 push_cast [O,U]
 by_cases hlt:i < l.length
 case neg =>
  have hi2:i=l.length:=by omega
  subst hi2
  rw [List.take_length]
  have hb:newB l=true:=by unfold newB;rw [decide_eq_true hlen,hok];rfl
  have htk:=List.take_of_length_le (l:=l.map Mod.d) (i:=l.length) (by simp)
  rw [hb]
  refine pwp_weak (weak_frz 1 (by omega)) ?_
  push_cast [O,U,htk]
  refine pwp_weak (weak_adopt_box 0 2 9 1 (by omega) 87 [.v (.slice none 0 0),.sl 6 (l.map Mod.d),.v (.slice none 0 0),.v (.slice none 0 0),.v (.int .i64 0)] rfl rfl) ?_
  push_cast [O,U]
  refine pwp_weak (weak_adopt_box 0 3 69 5 (by omega) 87 [.v (.slice none 0 0),.sl 6 (l.map Mod.d),.own 2 0,.v (.slice none 0 0),.v (.int .i64 0)] rfl rfl) ?_
  push_cast [O,U]
  repeat' ((first|refine pC ?_|refine pQC ?_|refine pU ?_|refine pif ?_ ?_<;>intro h<;>try exact pN h)<;>push_cast [O,U])
  (refine retK_of [0,2,3] ?_;push_cast [O,U])
 have hmem:l.getD i default ∈ l:=by rw [getD_lt l hlt];exact List.getElem_mem _
 have hno:=newOk_no hlt
 have hmd:=kmodN_pure (l.take i) (l.getD i default).name (by rw [List.length_take];omega)
 have hv:=kvalid_pure (l.getD i default) (hm _ hmem)
 have htk:l.take (i+1)=l.take i++[l.getD i default]:=by rw [List.take_succ_eq_append_getElem hlt,getD_lt l hlt]
 have htl:(l.take i).length=i:=by rw [List.length_take];omega
 have hst:((modOf (l.take i) (l.getD i default).name).isNone && modB (l.getD i default))=true → newOk l (i+1)=true:=fun h=>by rw [newOk,hok,h];rfl
 obtain ⟨u,hu⟩:∃ u,l.take i=u:=⟨_,rfl⟩
 obtain ⟨m,hmm⟩:∃ m,l.getD i default=m:=⟨_,rfl⟩
 have hmf:=hm _ hmem
 rw [hu] at hmd htk htl hno hst ⊢
 rw [hmm] at hmd hv htk hno hst hmf
 cases hso:modOf u m.name with
 | some x =>
  rw [hso] at hno hmd
  have hb:=hno rfl
  rw [hb]
  simp only [Option.getD_some,Option.isSome_some] at hmd
  repeat' ((first|refine plE [0,1] hmd ?_ ?_|refine pC ?_|refine pQC ?_|refine pU ?_|refine pif ?_ ?_<;>intro h<;>try exact pN h)<;>push_cast [O,U,htl,hmm])
  (refine retK_of [] ?_;push_cast [O,U])
 | none =>
  rw [hso] at hno hmd hst
  simp only [Option.getD_none,Option.isSome_none] at hmd
  cases hvb:modB m with
  | false =>
   rw [hvb] at hv hno
   have hb:=hno rfl
   rw [hb]
   repeat' ((first|refine plE [0,1] hmd ?_ ?_|refine plE [] hv ?_ ?_|refine pC ?_|refine pQC ?_|refine pU ?_|refine pif ?_ ?_<;>intro h<;>try exact pN h)<;>push_cast [O,U,htl,hmm])
   (refine retK_of [] ?_;push_cast [O,U])
  | true =>
   rw [hvb] at hv hst
   have hnx:=hst rfl
   have hfw:fewB m=true:=by
    unfold modB at hvb
    cases hf:fewB m with
    | true=>rfl
    | false=>rw [hf] at hvb;simp at hvb
   unfold fewB at hfw
   simp only [Bool.and_eq_true,decide_eq_true_eq] at hfw
   have c1:=clone_pure m.aliases (by omega)
   have c2:=clone_pure m.needs (by omega)
   have c3:=clone_pure m.pre (by omega)
   have c4:=clone_pure m.post (by omega)
   repeat' ((first|refine plE [0,1] hmd ?_ ?_|refine plE [] hv ?_ ?_|(refine hidR 10 ?_)|refine pC ?_|refine pQC ?_|refine pU ?_|refine pif ?_ ?_<;>intro h<;>try exact pN h)<;>push_cast [O,U,htl,hmm])
   refine unhid ?_
   (refine pwp_cut 9 [14,15,16] ?_;refine pwp_drawn (by kernel_rfl) ?_;simp only [List.length_cons,List.length_nil,Nat.reduceAdd];refine pah 0 ?_;push_cast [O,U,  htl];refine pah 3 ?_;push_cast [O,U,  htl];refine pah 6 ?_;push_cast [O,U,  htl];refine pah 9 ?_;push_cast [O,U,  htl];apply pa_hav;intro z34;apply pa_hav;intro z33;apply pa_hav;intro z32;apply pa_hav;intro z31;apply pa_hav;intro z30;apply pa_hav;intro z29;apply pa_hav;intro z28;apply pa_hav;intro z26;apply pa_hav;intro z27;apply pa_hav;intro z24;apply pa_hav;intro z25;apply pa_hav;intro z19;apply pa_hav;intro z20;apply pa_hav;intro z21;apply pa_hav;intro z22;apply pa_hav;intro z23;apply pa_hav;intro z12;apply pa_hav;intro z13;apply pa_hav;intro z14;apply pa_hav;intro z15;apply pa_hav;intro z16;apply pa_hav;intro z17;apply pa_hav;intro z18;apply pa_hav;intro z5;apply pa_hav;intro z6;apply pa_hav;intro z7;apply pa_hav;intro z8;apply pa_hav;intro z9;apply pa_hav;intro z10;apply pa_hav;intro z11;apply pa_hav;intro z1;apply pa_hav;intro z2;apply pa_hav;intro z3;apply pa_hav;intro z4;refine pas [1,4,7,10] ?_;push_cast [O,U,  htl];refine ⟨z1,z2,z3,z4⟩;refine pas [1,4,7] ?_;push_cast [O,U,  htl];refine ⟨z8,z10,z11⟩;refine pas [1,4,10] ?_;push_cast [O,U,  htl];refine ⟨z7,z9,paw z11 ?_⟩<;>(refine weak_fg ?_;push_cast [O,U,  htl]);refine pas [1,7,10] ?_;push_cast [O,U,  htl];refine ⟨z6,paw z9 ?_,paw z10 ?_⟩<;>(refine weak_fg ?_;push_cast [O,U,  htl]);refine pas [2,4,7,10] ?_;push_cast [O,U,  htl];refine ⟨?_,?_,?_,?_⟩;(focus ((refine plE [] c1 ?_ ?_;(focus (push_cast [O,U,  htl];done));push_cast [O,U,  htl]);exact z5));(focus (refine paw z6 ?_;refine weak_fg ?_;push_cast [O,U,  htl]));(focus (refine paw z7 ?_;refine weak_fg ?_;push_cast [O,U,  htl]));(focus (refine paw z8 ?_;refine weak_fg ?_;push_cast [O,U,  htl]));refine pas [1,4] ?_;push_cast [O,U,  htl];refine ⟨z17,z18⟩;refine pas [1,7] ?_;push_cast [O,U,  htl];refine ⟨z16,paw z18 ?_⟩<;>(refine weak_fg ?_;push_cast [O,U,  htl]);refine pas [1,10] ?_;push_cast [O,U,  htl];refine ⟨z15,paw z18 ?_⟩<;>(refine weak_fg ?_;push_cast [O,U,  htl]);refine pas [2,4,7] ?_;push_cast [O,U,  htl];refine ⟨?_,?_,?_⟩;(focus ((refine plE [] c1 ?_ ?_;(focus (push_cast [O,U,  htl];done));push_cast [O,U,  htl]);exact z14));(focus (refine paw z16 ?_;refine weak_fg ?_;push_cast [O,U,  htl]));(focus (refine paw z17 ?_;refine weak_fg ?_;push_cast [O,U,  htl]));refine pas [2,4,10] ?_;push_cast [O,U,  htl];refine ⟨?_,?_,?_⟩;(focus ((refine plE [] c1 ?_ ?_;(focus (push_cast [O,U,  htl];done));push_cast [O,U,  htl]);exact z13));(focus (refine paw z15 ?_;refine weak_fg ?_;push_cast [O,U,  htl]));(focus (refine paw z17 ?_;refine weak_fg ?_;push_cast [O,U,  htl]));refine pas [2,7,10] ?_;push_cast [O,U,  htl];refine ⟨?_,?_,?_⟩;(focus ((refine plE [] c1 ?_ ?_;(focus (push_cast [O,U,  htl];done));push_cast [O,U,  htl]);exact z12));(focus (refine paw z15 ?_;refine weak_fg ?_;push_cast [O,U,  htl]));(focus (refine paw z16 ?_;refine weak_fg ?_;push_cast [O,U,  htl]));refine pas [4,7,10] ?_;push_cast [O,U,  htl];refine ⟨paw z12 ?_,paw z13 ?_,paw z14 ?_⟩<;>(refine weak_fg ?_;push_cast [O,U,  htl]);refine pas [1] ?_;push_cast [O,U,  htl];refine z23;refine pas [2,4] ?_;push_cast [O,U,  htl];refine ⟨?_,?_⟩;(focus ((refine plE [] c1 ?_ ?_;(focus (push_cast [O,U,  htl];done));push_cast [O,U,  htl]);exact z22));(focus (refine paw z23 ?_;refine weak_fg ?_;push_cast [O,U,  htl]));refine pas [2,7] ?_;push_cast [O,U,  htl];refine ⟨?_,?_⟩;(focus ((refine plE [] c1 ?_ ?_;(focus (push_cast [O,U,  htl];done));push_cast [O,U,  htl]);exact z21));(focus (refine paw z23 ?_;refine weak_fg ?_;push_cast [O,U,  htl]));refine pas [2,10] ?_;push_cast [O,U,  htl];refine ⟨?_,?_⟩;(focus ((refine plE [] c1 ?_ ?_;(focus (push_cast [O,U,  htl];done));push_cast [O,U,  htl]);exact z20));(focus (refine paw z23 ?_;refine weak_fg ?_;push_cast [O,U,  htl]));refine pas [4,7] ?_;push_cast [O,U,  htl];refine ⟨paw z21 ?_,paw z22 ?_⟩<;>(refine weak_fg ?_;push_cast [O,U,  htl]);refine pas [4,10] ?_;push_cast [O,U,  htl];refine ⟨paw z20 ?_,paw z22 ?_⟩<;>(refine weak_fg ?_;push_cast [O,U,  htl]);refine pas [5,7,10] ?_;push_cast [O,U,  htl];refine ⟨?_,?_,?_⟩;(focus ((refine plE [] c2 ?_ ?_;(focus (push_cast [O,U,  htl];done));push_cast [O,U,  htl]);exact z19));(focus (refine paw z20 ?_;refine weak_fg ?_;push_cast [O,U,  htl]));(focus (refine paw z21 ?_;refine weak_fg ?_;push_cast [O,U,  htl]));refine pas [2] ?_;push_cast [O,U,  htl];(focus ((refine plE [] c1 ?_ ?_;(focus (push_cast [O,U,  htl];done));push_cast [O,U,  htl]);refine pah 12 ?_;push_cast [O,U,  htl];exact z26));refine pas [4] ?_;push_cast [O,U,  htl];(focus (refine pah 12 ?_;push_cast [O,U,  htl];refine paw z26 ?_;refine weak_fg ?_;push_cast [O,U,  htl]));refine pas [5,7] ?_;push_cast [O,U,  htl];refine ⟨?_,?_⟩;(focus ((refine plE [] c2 ?_ ?_;(focus (push_cast [O,U,  htl];done));push_cast [O,U,  htl]);exact z25));(focus (refine pah 12 ?_;push_cast [O,U,  htl];refine paw z26 ?_;refine weak_fg ?_;push_cast [O,U,  htl]));refine pas [5,10] ?_;push_cast [O,U,  htl];refine ⟨?_,?_⟩;(focus ((refine plE [] c2 ?_ ?_;(focus (push_cast [O,U,  htl];done));push_cast [O,U,  htl]);exact z24));(focus (refine pah 12 ?_;push_cast [O,U,  htl];refine paw z26 ?_;refine weak_fg ?_;push_cast [O,U,  htl]));refine pas [7,10] ?_;push_cast [O,U,  htl];refine ⟨paw z24 ?_,paw z25 ?_⟩<;>(refine weak_fg ?_;push_cast [O,U,  htl]);refine pas [7] ?_;push_cast [O,U,  htl];(focus (refine pah 12 ?_;push_cast [O,U,  htl];exact z28));refine pas [8,10] ?_;push_cast [O,U,  htl];refine ⟨?_,?_⟩;(focus ((refine plE [] c3 ?_ ?_;(focus (push_cast [O,U,  htl];done));push_cast [O,U,  htl]);exact z27));(focus (refine pah 12 ?_;push_cast [O,U,  htl];refine paw z28 ?_;refine weak_fg ?_;push_cast [O,U,  htl]));refine pas [10] ?_;push_cast [O,U,  htl];(focus (refine pah 12 ?_;push_cast [O,U,  htl];exact z29));refine pas [5] ?_;push_cast [O,U,  htl];(focus ((refine plE [] c2 ?_ ?_;(focus (push_cast [O,U,  htl];done));push_cast [O,U,  htl]);refine paw z28 ?_;refine weak_fg ?_;push_cast [O,U,  htl]));refine pas [8] ?_;push_cast [O,U,  htl];(focus ((refine plE [] c3 ?_ ?_;(focus (push_cast [O,U,  htl];done));push_cast [O,U,  htl]);refine paw z29 ?_;refine weak_fg ?_;push_cast [O,U,  htl]));refine pas [11] ?_;push_cast [O,U,  htl];(focus ((refine plE [] c4 ?_ ?_;(focus (push_cast [O,U,  htl];done));push_cast [O,U,  htl]);exact z30));refine pas [13] ?_;push_cast [O,U,  htl];(focus (refine pah 14 ?_;push_cast [O,U,  htl];exact z31));refine pas [15] ?_;push_cast [O,U,  htl];(focus (refine pah 16 ?_;push_cast [O,U,  htl];exact z32));refine pas [17] ?_;push_cast [O,U,  htl];(focus (refine pah 18 ?_;push_cast [O,U,  htl];exact z33));refine pas [19] ?_;push_cast [O,U,  htl];refine paw z34 (weak_cutS 9 [14,15,16] _);push_cast [O,U,  htl];refine pad ?_;push_cast [O,U,  htl])
   have t1:=List.take_of_length_le (l:=m.aliases.map strD) (i:=m.aliases.length) (by simp)
   have t2:=List.take_of_length_le (l:=m.needs.map strD) (i:=m.needs.length) (by simp)
   have t3:=List.take_of_length_le (l:=m.pre.map strD) (i:=m.pre.length) (by simp)
   have t4:=List.take_of_length_le (l:=m.post.map strD) (i:=m.post.length) (by simp)
   refine pwp_weak (weak_frz 4 (by omega)) ?_
   push_cast [O,U,t1]
   refine pwp_weak (weak_frz 5 (by omega)) ?_
   push_cast [O,U,t2]
   refine pwp_weak (weak_frz 6 (by omega)) ?_
   push_cast [O,U,t3]
   refine pwp_weak (weak_frz 7 (by omega)) ?_
   push_cast [O,U,t4]
   repeat' ((first|(refine pwp_cut 9 [14,15,16] ?_;apply pwp_drawn_to;(focus kernel_rfl);(focus (simp only [List.length_cons,List.length_nil,Nat.reduceAdd];(repeat' first|((first|refine pah 0 ?_|refine pah 1 ?_|refine pah 2 ?_|refine pah 3 ?_|refine pah 8 ?_|refine pah 9 ?_);push_cast [O,U,  htl])|(refine pad ?_;first|with_reducible exact weak_cutS 9 [14,15,16] _|(refine weak_fg ?_;push_cast [O,U,  htl]))|((first|refine pas [4] ?_|refine pas [5] ?_|refine pas [6] ?_|refine pas [7] ?_|refine pas [10] ?_);push_cast [O,U,  htl])|((first|refine pas [4,5] ?_|refine pas [4,6] ?_);push_cast [O,U,  htl];refine ⟨?_,?_⟩));done));push_cast [O,U,  htl])|refine pC ?_|refine pQC ?_|refine pU ?_|refine pif ?_ ?_<;>intro h<;>try exact pN h)<;>push_cast [O,U,htl])
   exact ⟨i+1,⟨by omega,hnx⟩,by (refine weak_fg ?_;push_cast [O,U,htk]),by omega⟩
end Go.Proofs.YtmbbkfffcflfcaaGreatDoor
