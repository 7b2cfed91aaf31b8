/- What the program computes, and the plain laws of it, part 34. -/
import Derived.WideKeyEntry
import Derived.Test.YthhfpcbpiphfiaaGreatDoorR33
namespace Go.Proofs.YthhfpcbpiphfiaaGreatDoor
attribute [local irreducible] PL QL PWPr PCalls Weak RetK Kontr PA HA HW
open Go.RowKit
open IntWalk renaming iteOmega → iO, toNatUp → tN
set_option linter.unusedVariables false
set_option linter.unusedSimpArgs false
set_option maxRecDepth 20000
def idxDa (E:List Ent):List (MK × List D):=rowsD 2 (idxOf E)
theorem putR_len {k:MK} {r:List D} {n:Nat}:∀ {l:HRows},(∀ x ∈ l,x.2.length≤n) → ∀ x ∈ putR l k r,x.2.length≤n+1
 | [],_,x,hx=>by
  simp only [putR,List.mem_singleton] at hx
  subst hx
  simp
 | (a,y) :: l,h,x,hx=>by
  unfold putR at hx
  have h1:=h (a,y) (by simp)
  split at hx
  ·rcases List.mem_cons.1 hx with rfl|hx
   ·simpa using h1
   ·have:=h x (by simp [hx]);omega
  ·rcases List.mem_cons.1 hx with rfl|hx
   ·simp only at h1 ⊢;omega
   ·exact putR_len (fun z hz=>h z (by simp [hz])) x hx
theorem idx_len (E:List Ent):∀ x ∈ idxOf E,x.2.length≤E.length:=by
 have h:∀ (n:Nat),∀ x ∈ idxOf (E.take n),x.2.length≤n:=fun n=>by
  induction n with
  | zero=>intro x hx;simp [idxOf] at hx
  | succ n ih =>
   by_cases hn:n < E.length
   ·rw [List.take_succ_eq_append_getElem hn,idxOf_snoc]
    unfold idxPut
    split
    ·exact putR_len ih
    ·intro x hx;have:=ih x hx;omega
   ·rw [List.take_of_length_le (by omega)] at ih ⊢
    intro x hx;have:=ih x hx;omega
 have:=h E.length
 rwa [List.take_length] at this
theorem idx_next {E:List Ent} {k:Nat} (hk:k < E.length):idxOf (E.take (k+1))=idxPut (idxOf (E.take k)) (E.getD k default):=by
 rw [List.take_succ_eq_append_getElem hk,idxOf_snoc,getD_lt E hk]
set_option maxHeartbeats 8000000 in
theorem new_pure (c:Cfg) (hc:FewA c) (hp:∀ y ∈ entsC c,y.pat.size≤1000000000) :
  PCalls Tryz.prog 20 [.agg c.e] [] fun r os=>r = .c (.ptr 1 0)∧os=[.map none false (idxDa (entsC c)),.box 90 [.mp 0]]:=by
 have hE:=entries_pure c hc
 have hEl:=entsC_len hc
 obtain ⟨E,he⟩:∃ E,entsC c=E:=⟨_,rfl⟩
 rw [he] at hE hEl hp ⊢
 refine pcalls_of Tryz.func20 rfl (by simp [Tryz.ntmps20]) ?_
 rw [Tryz.ntmps20,Tryz.results20]
 push_cast [iO,tN]
 have cB:CutB 8 [12,13,14]:=trivial
 repeat' (first |  ((refine plc [] (hE) ?_ ?_;push_cast [iO,tN];rintro r os ⟨rfl,rfl⟩;push_cast [iO,tN]))  | ((first|refine pC ?_|refine pQC ?_|refine pU ?_);push_cast [iO,tN])|(refine pif (fun h=>?_) (fun h=>?_)<;>first|exact pN h|push_cast [iO,tN]))
 refine pwp_hidl 94 2 3 1 rfl rfl rfl (by rfl) ?_
 rintro z ⟨ty,kk,el,sz,Bx,M,Γ0,w0⟩ rfl rfl rfl rfl
 refine hw_loop (α:=Nat) (fun k=>k≤E.length) (fun k=>⟨[(3,.c (.v (.pointer (some ⟨Bx,0,none⟩)))),(14,.c (.v (.int .i64 k))),(13,.c (.v (.int .i64 E.length))),(12,.c (.sl 2 (E.map Ent.d)))],[]⟩) (fun k=>idxOf (E.take k)) (fun k=>E.length - k) 0 (Nat.zero_le _) ?_ rfl ?_
 ·simp only [List.map_cons,List.map_nil,anyT]
  (refine weak_fg ?_;push_cast [iO,tN,List.isEmpty_nil,List.isEmpty_cons,if_true,Bool.false_eq_true,if_false])
 intro k hk
 by_cases hlt:k < E.length
 case neg =>
  have hk2:k=E.length:=by omega
  refine hw_seq ?_
  refine hw_lift ?_
  repeat' (first|((first|refine pC ?_|refine pQC ?_|refine pU ?_);push_cast [iO,tN,hlt])|(refine pif (fun h=>?_) (fun h=>?_)<;>first|exact pN h|push_cast [iO,tN,hlt]))
  simp only [thenH]
  refine hw_seq ?_
  refine hw_cond ?_
  push_cast [iO,tN,hlt]
  refine ⟨fun h=>absurd h (by simp;omega),fun _=>?_⟩
  refine hw_exit ?_
  simp only [thenH]
  refine ⟨rfl,?_⟩
  rw [hk2,List.take_length]
  push_cast [iO,tN]
  repeat' (first|((first|refine pC ?_|refine pQC ?_|refine pU ?_);push_cast [iO,tN])|(refine pif (fun h=>?_) (fun h=>?_)<;>first|exact pN h|push_cast [iO,tN]))
  (refine retK_of [0,1] ?_;push_cast [iO,tN,idxDa])
 refine hw_seq ?_
 refine hw_lift ?_
 repeat' (first|((first|refine pC ?_|refine pQC ?_|refine pU ?_);push_cast [iO,tN,hlt])|(refine pif (fun h=>?_) (fun h=>?_)<;>first|exact pN h|push_cast [iO,tN,hlt]))
 simp only [thenH]
 refine hw_seq ?_
 refine hw_cond ?_
 push_cast [iO,tN,hlt]
 refine ⟨fun _=>?_,fun h=>absurd h (by simp;omega)⟩
 refine hw_skip ?_
 simp only [thenH]
 refine hw_seq ?_
 refine hw_block ?_
 obtain ⟨y,hy⟩:∃ y,E.getD k default=y:=⟨_,rfl⟩
 have hym:y ∈ E:=by rw [← hy,getD_lt E hlt];exact List.getElem_mem _
 have hpre:=prefix_pure y.pat (by have:=hp y hym;omega)
 have hnx:=idx_next hlt
 rw [hy] at hnx
 refine hw_seq ?_
 refine hw_lift ?_
 repeat' (first|((first|refine pC ?_|refine pQC ?_|refine pU ?_);push_cast [iO,tN,hy,Ent.d])|(refine pif (fun h=>?_) (fun h=>?_)<;>first|exact pN h|push_cast [iO,tN,hy,Ent.d]))
 simp only [thenH]
 refine hw_seq ?_
 refine hw_lift ?_
 repeat' (first |  ((refine plc [] (hpre) ?_ ?_;push_cast [iO,tN];rintro r os ⟨rfl,rfl⟩;push_cast [iO,tN]))  | ((first|refine pC ?_|refine pQC ?_|refine pU ?_);push_cast [iO,tN])|(refine pif (fun h=>?_) (fun h=>?_)<;>first|exact pN h|push_cast [iO,tN]))
 simp only [thenH]
 refine hw_seq ?_
 refine hw_lift ?_
 repeat' (first|((first|refine pC ?_|refine pQC ?_|refine pU ?_);push_cast [iO,tN])|(refine pif (fun h=>?_) (fun h=>?_)<;>first|exact pN h|push_cast [iO,tN]))
 simp only [thenH]
 refine hw_to ⟨[(3,.c (.v (.pointer (some ⟨Bx,0,none⟩)))),(14,.c (.v (.int .i64 k))),(13,.c (.v (.int .i64 E.length))),(12,.c (.sl 2 (E.map Ent.d)))],[]⟩ (idxOf (E.take (k+1))) ?_ ?_
 rotate_left
 ·intro s' hs
  simp only [inH,thenH]
  refine hw_weak hs ?_
  refine hw_lift ?_
  repeat' (first|((first|refine pC ?_|refine pQC ?_|refine pU ?_);push_cast [iO,tN])|(refine pif (fun h=>?_) (fun h=>?_)<;>first|exact pN h|push_cast [iO,tN]))
  simp only [thenH]
  exact ⟨k+1,by (refine weak_fg ?_;push_cast [iO,tN]),rfl,by omega,by omega⟩
 rw [hnx]
 refine hw_cond ?_
 push_cast [iO,tN]
 refine ⟨fun hg=>?_,fun hg=>?_⟩
 rotate_left
 ·have hg2:¬ globM y.pat=0:=by simpa using hg
  refine hw_skip ⟨rfl,?_,?_⟩
  ·(refine weak_fg ?_;push_cast [iO,tN])
  ·unfold idxPut;rw [if_neg hg2]
 have hg2:globM y.pat=0:=by simpa using hg
 rw [hg2]
 simp only [if_true]
 refine hw_drawn (by kernel_rfl) fun hs hhs=>?_
 have hmax:∀ h ∈ hs,h.rows.length+1≤maxLen∧(h.rows.length+1) * 32≤140737488355328:=fun h hh=>by
  have h1:=idx_len (E.take k) (HE.pr h) (by rw [← hhs];exact List.mem_map.2 ⟨h,hh,rfl⟩)
  have h2:(E.take k).length≤10100:=by rw [List.length_take];omega
  have h3:h.rows.length≤10100:=Nat.le_trans h1 h2
  unfold maxLen
  exact ⟨by omega,by omega⟩
 simp only [List.length_cons,List.length_nil,Nat.reduceAdd]
 refine hah 0 ?_
 push_cast [iO,tN]
 refine hahq 1 (.c (.v (.pointer (some ⟨Bx,0,none⟩)))) rfl (lit_nil rfl rfl) ?_
 push_cast [iO,tN]
 refine hahq 2 (.c (.v (.pointer (some ⟨Bx,0,none⟩)))) rfl (lit_fa (g:=0) (off:=0) (ty:=88) rfl (by kernel_rfl) rfl) ?_
 push_cast [iO,tN]
 refine hah 4 ?_
 push_cast [iO,tN]
 refine hah 5 ?_
 push_cast [iO,tN]
 refine hahq 6 (.c (.v (.pointer (some ⟨Bx,0,none⟩)))) rfl (lit_nil rfl rfl) ?_
 push_cast [iO,tN]
 refine hahq 7 (.c (.v (.pointer (some ⟨Bx,0,none⟩)))) rfl (lit_fa (g:=0) (off:=0) (ty:=88) rfl (by kernel_rfl) rfl) ?_
 push_cast [iO,tN]
 refine hah 9 ?_
 push_cast [iO,tN]
 apply ha_hav;intro z17
 apply ha_hav;intro z16
 apply ha_hav;intro z15
 apply ha_hav;intro z14
 apply ha_hav;intro z13
 apply ha_hav;intro z12
 apply ha_hav;intro z11
 apply ha_hav;intro z10
 apply ha_hav;intro z9
 apply ha_hav;intro z8
 apply ha_hav;intro z7
 apply ha_hav;intro z6
 apply ha_hav;intro z5
 apply ha_hav;intro z4
 apply ha_hav;intro z3
 apply ha_hav;intro z2
 apply ha_hav;intro z1
 ·refine has3 3 8 11 ?_ ?_ ?_
  ·refine hown rfl (ho_load (n:=1) rfl (by kernel_rfl) (by kernel_rfl) rfl hsBox) fun _=>?_
   push_cast [iO,tN]
   exact z1
  ·refine hown rfl (ho_load (n:=1) rfl (by kernel_rfl) (by kernel_rfl) rfl hsBox) fun _=>?_
   push_cast [iO,tN]
   exact z2
  ·refine hlay rfl hstable_hidS ?_
   push_cast [iO,tN]
   exact z3
 ·refine has2 8 11 ?_ ?_
  ·refine hown rfl (ho_load (n:=1) rfl (by kernel_rfl) (by kernel_rfl) rfl hsBox) fun _=>?_
   push_cast [iO,tN]
   exact z4
  ·refine hlay rfl hstable_hidS ?_
   push_cast [iO,tN]
   exact z5
 ·refine has3 3 10 11 ?_ ?_ ?_
  ·refine hown rfl (ho_load (n:=1) rfl (by kernel_rfl) (by kernel_rfl) rfl hsBox) fun _=>?_
   push_cast [iO,tN]
   exact haw z4 (by (refine weak_fg ?_;push_cast [iO,tN]))
  ·refine hown rfl (ho_lookup (e:=91) (key:=.s (prefB y.pat)) rfl rfl rfl (by kernel_rfl) rfl (hz_of ⟨90,none,94,2,Bx,M,Γ0,w0⟩ (by kernel_rfl))) fun _=>?_
   push_cast [iO,tN]
   exact z6
  ·refine hlay rfl hstable_hidS ?_
   push_cast [iO,tN]
   exact z7
 ·refine has3 3 8 12 ?_ ?_ ?_
  ·refine hown rfl (ho_load (n:=1) rfl (by kernel_rfl) (by kernel_rfl) rfl hsBox) fun _=>?_
   push_cast [iO,tN]
   exact haw z5 (by (refine weak_fg ?_;push_cast [iO,tN]))
  ·refine hown rfl (ho_load (n:=1) rfl (by kernel_rfl) (by kernel_rfl) rfl hsBox) fun _=>?_
   push_cast [iO,tN]
   exact haw z7 (by (refine weak_fg ?_;push_cast [iO,tN]))
  ·refine hlay rfl hstable_hidS ?_
   push_cast [iO,tN]
   exact z8
 ·refine has2 10 11 ?_ ?_
  ·refine hown rfl (ho_lookup (e:=91) (key:=.s (prefB y.pat)) rfl rfl rfl (by kernel_rfl) rfl (hz_of ⟨90,none,94,2,Bx,M,Γ0,w0⟩ (by kernel_rfl))) fun _=>?_
   push_cast [iO,tN]
   exact z9
  ·refine hlay rfl hstable_hidS ?_
   push_cast [iO,tN]
   exact z10
 ·refine has2 8 12 ?_ ?_
  ·refine hown rfl (ho_load (n:=1) rfl (by kernel_rfl) (by kernel_rfl) rfl hsBox) fun _=>?_
   push_cast [iO,tN]
   exact haw z10 (by (refine weak_fg ?_;push_cast [iO,tN]))
  ·refine hlay rfl hstable_hidS ?_
   push_cast [iO,tN]
   exact z11
 ·refine has2 3 11 ?_ ?_
  ·refine hown rfl (ho_load (n:=1) rfl (by kernel_rfl) (by kernel_rfl) rfl hsBox) fun _=>?_
   push_cast [iO,tN]
   exact haw z9 (by (refine weak_fg ?_;push_cast [iO,tN]))
  ·refine hlay rfl hstable_hidS ?_
   push_cast [iO,tN]
   exact z12
 ·refine has3 3 10 12 ?_ ?_ ?_
  ·refine hown rfl (ho_load (n:=1) rfl (by kernel_rfl) (by kernel_rfl) rfl hsBox) fun _=>?_
   push_cast [iO,tN]
   exact haw z10 (by (refine weak_fg ?_;push_cast [iO,tN]))
  ·refine hown rfl (ho_lookup (e:=91) (key:=.s (prefB y.pat)) rfl rfl rfl (by kernel_rfl) rfl (hz_of ⟨90,none,94,2,Bx,M,Γ0,w0⟩ (by kernel_rfl))) fun _=>?_
   push_cast [iO,tN]
   exact haw z12 (by (refine weak_fg ?_;push_cast [iO,tN]))
  ·refine hlay rfl hstable_hidS ?_
   push_cast [iO,tN]
   exact z13
 ·refine has2 3 8 ?_ ?_
  ·refine hown rfl (ho_load (n:=1) rfl (by kernel_rfl) (by kernel_rfl) rfl hsBox) fun _=>?_
   push_cast [iO,tN]
   exact haw z11 (by (refine weak_fg ?_;push_cast [iO,tN]))
  ·refine hown rfl (ho_load (n:=1) rfl (by kernel_rfl) (by kernel_rfl) rfl hsBox) fun _=>?_
   push_cast [iO,tN]
   exact haw z13 (by (refine weak_fg ?_;push_cast [iO,tN]))
 ·refine has1 11 ?_
  ·refine hlay rfl hstable_hidS ?_
   push_cast [iO,tN]
   exact z14
 ·refine has2 10 12 ?_ ?_
  ·refine hown rfl (ho_lookup (e:=91) (key:=.s (prefB y.pat)) rfl rfl rfl (by kernel_rfl) rfl (hz_of ⟨90,none,94,2,Bx,M,Γ0,w0⟩ (by kernel_rfl))) fun _=>?_
   push_cast [iO,tN]
   exact haw z14 (by (refine weak_fg ?_;push_cast [iO,tN]))
  ·refine hlay rfl hstable_hidS ?_
   push_cast [iO,tN]
   exact z15
 ·refine has1 8 ?_
  ·refine hown rfl (ho_load (n:=1) rfl (by kernel_rfl) (by kernel_rfl) rfl hsBox) fun _=>?_
   push_cast [iO,tN]
   exact haw z15 (by (refine weak_fg ?_;push_cast [iO,tN]))
 ·refine has2 3 12 ?_ ?_
  ·refine hown rfl (ho_load (n:=1) rfl (by kernel_rfl) (by kernel_rfl) rfl hsBox) fun _=>?_
   push_cast [iO,tN]
   exact haw z14 (by (refine weak_fg ?_;push_cast [iO,tN]))
  ·refine hlay rfl hstable_hidS ?_
   push_cast [iO,tN]
   exact z16
 ·refine has2 3 10 ?_ ?_
  ·refine hown rfl (ho_load (n:=1) rfl (by kernel_rfl) (by kernel_rfl) rfl hsBox) fun _=>?_
   push_cast [iO,tN]
   exact haw z15 (by (refine weak_fg ?_;push_cast [iO,tN]))
  ·refine hown rfl (ho_lookup (e:=91) (key:=.s (prefB y.pat)) rfl rfl rfl (by kernel_rfl) rfl (hz_of ⟨90,none,94,2,Bx,M,Γ0,w0⟩ (by kernel_rfl))) fun _=>?_
   push_cast [iO,tN]
   exact haw z16 (by (refine weak_fg ?_;push_cast [iO,tN]))
 ·refine has1 12 ?_
  ·refine hlay rfl hstable_hidS ?_
   push_cast [iO,tN]
   exact z17
 ·refine has1 10 ?_
  ·refine hown rfl (ho_lookup (e:=91) (key:=.s (prefB y.pat)) rfl rfl rfl (by kernel_rfl) rfl (hz_of ⟨90,none,94,2,Bx,M,Γ0,w0⟩ (by kernel_rfl))) fun _=>?_
   push_cast [iO,tN]
   exact haw z17 (by (refine weak_fg ?_;push_cast [iO,tN]))
 ·refine has2 3 13 ?_ ?_
  ·refine hown rfl (ho_load (n:=1) rfl (by kernel_rfl) (by kernel_rfl) rfl hsBox) fun _=>?_
   push_cast [iO,tN]
   exact haw z17 (by (refine weak_fg ?_;push_cast [iO,tN]))
  ·refine hown rfl (ho_append (key:=.s (prefB y.pat)) (r:=y.d) (t:=88) (e:=91) rfl rfl (by push_cast [iO,tN,Ent.d]) (by kernel_rfl) (by kernel_rfl) (show 0 < 2 by decide) (by kernel_rfl) (by kernel_rfl) rfl hmax (by decide)) fun v=>?_
   push_cast [iO,tN]
   refine has1 3 ?_
   refine hown rfl (ho_load (n:=1) rfl (by kernel_rfl) (by kernel_rfl) rfl hpBox) fun _=>?_
   push_cast [iO,tN]
   refine has1 14 ?_
   refine hown rfl (ho_update (e:=91) rfl rfl rfl rfl) fun _=>?_
   push_cast [iO,tN]
   refine had fun Γ w h=>⟨?_,?_⟩
   ·rw [hhs] at h;unfold idxPut;rw [if_pos hg2];exact h
   ·(refine weak_fg ?_;push_cast [iO,tN])
 ·refine has1 13 ?_
  ·refine hown rfl (ho_append (key:=.s (prefB y.pat)) (r:=y.d) (t:=88) (e:=91) rfl rfl (by push_cast [iO,tN,Ent.d]) (by kernel_rfl) (by kernel_rfl) (show 0 < 2 by decide) (by kernel_rfl) (by kernel_rfl) rfl hmax (by decide)) fun v=>?_
   push_cast [iO,tN]
   refine has1 14 ?_
   refine hown rfl (ho_update (e:=91) rfl rfl rfl rfl) fun _=>?_
   push_cast [iO,tN]
   refine had fun Γ w h=>⟨?_,?_⟩
   ·rw [hhs] at h;unfold idxPut;rw [if_pos hg2];exact h
   ·(refine weak_fg ?_;push_cast [iO,tN])
end Go.Proofs.YthhfpcbpiphfiaaGreatDoor
namespace Go.Proofs.YthhfpcbpiphfiaaGreatDoor
attribute [local irreducible] PL QL PWPr PCalls Weak RetK Kontr PA
open Go.RowKit
open IntWalk renaming iteOmega → iO, toNatUp → tN
set_option linter.unusedVariables false
set_option linter.unusedSimpArgs false
set_option maxRecDepth 20000
set_option maxRecDepth 20000
set_option maxRecDepth 20000
end Go.Proofs.YthhfpcbpiphfiaaGreatDoor
namespace Go.Proofs.YthhfpcbpiphfiaaGreatDoor
open Go.RowKit
open IntWalk renaming iteOmega → iO, toNatUp → tN
set_option linter.unusedVariables false
set_option linter.unusedSimpArgs false
def cmpB (l:List ByteArray):List ByteArray:=(Lib.compact (l.map (·.data.toList))).map unB
theorem cmpB_len (l:List ByteArray):(cmpB l).length=(Lib.compact (l.map (·.data.toList))).length:=by rw [cmpB,List.length_map]
end Go.Proofs.YthhfpcbpiphfiaaGreatDoor
namespace Go.Proofs.YthhfpcbpiphfiaaGreatDoor
attribute [local irreducible] PL QL PWPr PCalls Weak RetK Kontr PA
open Go.RowKit
open IntWalk renaming iteOmega → iO, toNatUp → tN
set_option linter.unusedVariables false
set_option linter.unusedSimpArgs false
set_option maxRecDepth 20000
theorem sort2_pure (l:List ByteArray) (hl:l.length≤1000000) :
  PCalls Tryz.prog 35 [.c (.own 0 l.length)] [.arr 9 1 (l.map strD)] fun r os=>∃ m:List ByteArray,(m.length=l.length∧cmpB m=ascOf l)∧r = .undef∧os=[.arr 9 1 (m.map strD)] :=
 (sort_pure l [] hl).mono (by
  rintro r os ⟨rfl,rfl⟩
  refine ⟨_,⟨?_,?_⟩,rfl,rfl⟩
  ·rw [List.length_map,(List.mergeSort_perm _ _).length_eq,List.length_map]
  ·unfold cmpB ascOf
   rw [List.map_map]
   have:((fun x:ByteArray=>x.data.toList) ∘ unB)=id:=funext fun x=>list_unB x
   rw [this,List.map_id])
theorem compact2_pure (l:List ByteArray) (hl:l.length≤1000000) :
  PCalls Tryz.prog 36 [.c (.own 0 l.length)] [.arr 9 1 (l.map strD)] fun r os=>∃ m:List ByteArray,r = .c (.own 0 (cmpB l).length)∧os=[.arr 9 1 ((cmpB l++m).map strD)] :=
 (compact_pure l [] hl).mono (by
  rintro r os ⟨m,rfl,rfl⟩
  exact ⟨m,by rw [cmpB_len],rfl⟩)
set_option maxRecDepth 20000
def ixOs (E:List Ent):List Ob:=[.map none false (idxDa E),.box 90 [.mp 0]]
theorem mget_rows (k:MK):∀ l:HRows,(mget (rowsD 2 l) k=none∧rowsAt l k=[])∨mget (rowsD 2 l) k=some [.sl 2 (rowsAt l k)]
 | []=>.inl ⟨rfl,rfl⟩
 | (a,x) :: l=>by
  have ih:=mget_rows k l
  by_cases h:a=k
  ·right
   simp [rowsD,mget,rowsAt,h]
  ·simp only [rowsD,List.map_cons,mget,rowsAt,h,if_false] at ih ⊢
   exact ih
theorem mget_idx (E:List Ent) (b:ByteArray):(mget (idxDa E) (.s b)=none∧entAt E b=[])∨mget (idxDa E) (.s b)=some [.sl 2 ((entAt E b).map Ent.d)]:=by
 have h:=mget_rows (.s b) (idxOf E)
 rw [rowsAt_idx] at h
 rcases h with ⟨h1,h2⟩|h
 ·exact .inl ⟨h1,List.map_eq_nil_iff.1 h2⟩
 ·exact .inr h
def findN (E:List Ent) (s:ByteArray):List ByteArray:=if s=⟨#[]⟩ then [] else ascOf (foundN E s (s.size+1))
def atJ (E:List Ent) (s b:ByteArray) (j:Nat):List ByteArray:=(((entAt E b).take j).filter fun y=>matchM y.pat s).map Ent.mod
theorem atJ_next {E:List Ent} {s b:ByteArray} {j:Nat} (hj:j < (entAt E b).length):atJ E s b (j+1)=atJ E s b j++if matchM ((entAt E b).getD j default).pat s=true then [((entAt E b).getD j default).mod] else []:=by
 unfold atJ
 rw [List.take_succ_eq_append_getElem hj,List.filter_append,List.map_append,getD_lt _ hj]
 congr 1
 by_cases h:matchM (entAt E b)[j].pat s=true
 ·simp [h]
 ·simp [h]
theorem foundN_next (E:List Ent) (s:ByteArray) (n:Nat):foundN E s (n+1)=foundN E s n++atJ E s (s.extract 0 n) (entAt E (s.extract 0 n)).length:=by
 unfold atJ
 rw [List.take_length]
 rfl
theorem entAt_len (E:List Ent) (b:ByteArray):(entAt E b).length≤E.length:=List.length_filter_le _ _
theorem filt_add {α:Type} (p q r:α → Bool) (hp:∀ x,p x=true → r x=true) (hq:∀ x,q x=true → r x=true) (hd:∀ x,p x=true → q x=true → False):∀ l:List α,(l.filter p).length+(l.filter q).length≤(l.filter r).length
 | []=>by simp
 | a :: l=>by
  have ih:=filt_add p q r hp hq hd l
  cases h1:p a with
  | true =>
   cases h2:q a with
   | true=>exact (hd a h1 h2).elim
   | false =>
    rw [List.filter_cons_of_pos h1,List.filter_cons_of_neg (by simp [h2]),List.filter_cons_of_pos (hp a h1)]
    simp only [List.length_cons]
    omega
  | false =>
   cases h2:q a with
   | true =>
    rw [List.filter_cons_of_neg (by simp [h1]),List.filter_cons_of_pos h2,List.filter_cons_of_pos (hq a h2)]
    simp only [List.length_cons]
    omega
   | false =>
    rw [List.filter_cons_of_neg (by simp [h1]),List.filter_cons_of_neg (by simp [h2])]
    cases h3:r a with
    | true=>rw [List.filter_cons_of_pos h3];simp only [List.length_cons];omega
    | false=>rw [List.filter_cons_of_neg (by simp [h3])];exact ih
theorem ext_size {s:ByteArray} {n:Nat} (h:n≤s.size):(s.extract 0 n).size=n:=by rw [ByteArray.size_extract];omega
theorem found_len (E:List Ent) (s:ByteArray):∀ n,n≤s.size+1 → (foundN E s n).length≤(E.filter fun y=>decide ((prefB y.pat).size < n)).length
 | 0,_=>by simp [foundN]
 | n+1,h=>by
  have ih:=found_len E s n (by omega)
  unfold foundN
  rw [List.length_append,List.length_map]
  have h1:=List.length_filter_le (fun y=>matchM y.pat s) (entAt E (s.extract 0 n))
  have h2:=filt_add (fun y:Ent=>decide ((prefB y.pat).size < n)) (fun y=>decide (globM y.pat=0) && decide (prefB y.pat=s.extract 0 n)) (fun y=>decide ((prefB y.pat).size < n+1)) (fun x hx=>by rw [decide_eq_true_eq] at hx ⊢;omega) (fun x hx=>by
   rw [Bool.and_eq_true,decide_eq_true_eq,decide_eq_true_eq] at hx
   rw [decide_eq_true_eq,hx.2,ext_size (by omega)]
   omega) (fun x hx hy=>by
   rw [Bool.and_eq_true,decide_eq_true_eq,decide_eq_true_eq] at hy
   rw [decide_eq_true_eq,hy.2,ext_size (by omega)] at hx
   omega) E
  unfold entAt at h1 ⊢
  omega
theorem found_few (E:List Ent) (s:ByteArray) {n:Nat} (h:n≤s.size+1):(foundN E s n).length≤E.length:=Nat.le_trans (found_len E s n h) (List.length_filter_le _ _)
set_option maxHeartbeats 8000000 in
theorem find_pure (E:List Ent) (s:ByteArray) (hE:E.length≤10100) (hp:∀ y ∈ E,y.pat.size≤1000000000) (hs:s.size≤9000000000000000000) :
  PCalls Tryz.prog 21 [.c (.ptr 1 0),.c (.v (.string s))] (ixOs E) fun r os=>r = .c (.sl 1 ((findN E s).map strD))∧os=ixOs E:=by
 unfold ixOs
 refine pcalls_of Tryz.func21 rfl (by simp [Tryz.ntmps21]) ?_
 rw [Tryz.ntmps21,Tryz.results21]
 push_cast [iO,tN]
 have cB:CutB 9 [13,14,24,25,26]:=trivial
 by_cases hs0:s=⟨#[]⟩
 ·have hR:findN E s=[]:=by unfold findN;rw [if_pos hs0]
  subst hs0
  repeat' (first|((first|refine pC ?_|refine pQC ?_|refine pU ?_);push_cast [iO,tN])|(refine pif (fun h=>?_) (fun h=>?_)<;>first|exact pN h|push_cast [iO,tN]))
  (refine retK_of [0,1] ?_;push_cast [iO,tN,hR])
 have hR:findN E s=ascOf (foundN E s (s.size+1)):=by unfold findN;rw [if_neg hs0]
 repeat' (first|((first|refine pC ?_|refine pQC ?_|refine pU ?_);push_cast [iO,tN,hs0])|(refine pif (fun h=>?_) (fun h=>?_)<;>first|exact pN h|push_cast [iO,tN,hs0]))
 refine pwp_weak (weak_adopt 5 9 1 (by omega) (by push_cast [iO,tN])) ?_
 push_cast [iO,tN]
 (apply pwp_loop3 (α:=Nat × List ByteArray) 9 [13,14,24,25,26] (fun x=>[(14,.c (.v (.int .i64 x.1))),(5,.c (.own 2 (x.2.length)))]) (fun x=>[(2,.arr 9 1 (x.2.map strD))]) (fun x=>x.1≤s.size+1∧x.2=foundN E s x.1) (fun x=>s.size+1 - x.1) ((0,[]));(focus ((try push_cast [iO,tN]);rfl));(focus exact ⟨by omega,rfl⟩);(focus ((refine weak_fg ?_;try push_cast [iO,tN]))))
 rintro ⟨n,l⟩ ⟨hn,hl⟩
 simp only at hn hl ⊢
 have hll:l.length≤10100:=by rw [hl];exact Nat.le_trans (found_few E s hn) hE
 push_cast [iO,tN]
 by_cases hlt:n < s.size+1
 ·have hnx:=foundN_next E s n
  have hel:=entAt_len E (s.extract 0 n)
  have hix:=mget_idx E (s.extract 0 n)
  have hmem:∀ y ∈ entAt E (s.extract 0 n),y ∈ E:=fun y hy=>(List.mem_filter.1 hy).1
  rcases hix with ⟨h1,h2⟩|h1
  ·have hnx2:l=foundN E s (n+1):=by rw [hnx,h2,hl];simp [atJ,h2]
   repeat' (first|((first|refine pC ?_|refine pQC ?_|refine pU ?_);push_cast [iO,tN,h1])|(refine pif (fun h=>?_) (fun h=>?_)<;>first|exact pN h|push_cast [iO,tN,h1]))
   (apply pwp_loop3 (α:=Nat) 9 [13,14,24,25,26] (fun j=>[(26,.c (.v (.int .i64 j)))]) (fun j=>[]) (fun j=>j=0) (fun j=>0 - j) (0);(focus ((try push_cast [iO,tN]);rfl));(focus exact rfl);(focus ((refine weak_fg ?_;try push_cast [iO,tN]))))
   intro j hj
   subst hj
   push_cast [iO,tN]
   repeat' (first|((first|refine pC ?_|refine pQC ?_|refine pU ?_);push_cast [iO,tN])|(refine pif (fun h=>?_) (fun h=>?_)<;>first|exact pN h|push_cast [iO,tN]))
   exact ⟨(n+1,l),⟨by simp only;omega,hnx2⟩,by (refine weak_fg ?_;push_cast [iO,tN]),by simp only;omega⟩
  ·obtain ⟨L,hL⟩:∃ L,entAt E (s.extract 0 n)=L:=⟨_,rfl⟩
   have hnj:=@atJ_next E s (s.extract 0 n)
   rw [hL] at h1 hnx hel hmem hnj
   repeat' (first|((first|refine pC ?_|refine pQC ?_|refine pU ?_);push_cast [iO,tN,h1])|(refine pif (fun h=>?_) (fun h=>?_)<;>first|exact pN h|push_cast [iO,tN,h1]))
   (apply pwp_loop3 (α:=Nat × List ByteArray) 9 [13,14,24,25,26] (fun y=>[(26,.c (.v (.int .i64 y.1))),(5,.c (.own 2 (y.2.length)))]) (fun y=>[(2,.arr 9 1 (y.2.map strD))]) (fun y=>y.1≤L.length∧y.2=l++atJ E s (s.extract 0 n) y.1∧y.2.length≤10100+y.1) (fun y=>L.length - y.1) ((0,l));(focus ((try push_cast [iO,tN]);rfl));(focus exact ⟨by omega,by simp [atJ],by (simp only;omega)⟩);(focus ((refine weak_fg ?_;try push_cast [iO,tN]))))
   rintro ⟨j,l2⟩ ⟨hj,hl2,hlb⟩
   simp only at hj hl2 hlb ⊢
   push_cast [iO,tN]
   by_cases hj2:j < L.length
   ·have hnj2:=hnj hj2
    have hyE:L.getD j default ∈ E:=hmem _ (by rw [getD_lt L hj2];exact List.getElem_mem _)
    obtain ⟨y,hy⟩:∃ y,L.getD j default=y:=⟨_,rfl⟩
    rw [hy] at hnj2 hyE
    have hmt:=match_pure y.pat s (by have:=hp y hyE;omega) hs
    cases hb:matchM y.pat s with
    | true =>
     rw [hb] at hmt
     rw [if_pos hb] at hnj2
     repeat' (first|((refine plc [] (hmt) ?_ ?_;push_cast [iO,tN,hy,Ent.d];rintro r os ⟨rfl,rfl⟩;push_cast [iO,tN,hy,Ent.d]))|((first|refine pC ?_|refine pQC ?_|refine pU ?_);push_cast [iO,tN,hy,Ent.d])|(refine pif (fun h=>?_) (fun h=>?_)<;>first|exact pN h|push_cast [iO,tN,hy,Ent.d]))
     exact ⟨(j+1,l2++[y.mod]),⟨by simp only;omega,by simp only;rw [hnj2,hl2,List.append_assoc],by simp only [List.length_append,List.length_cons,List.length_nil];omega⟩,by (refine weak_fg ?_;push_cast [iO,tN]),by simp only;omega⟩
    | false =>
     rw [hb] at hmt
     rw [if_neg (by simp [hb]),List.append_nil] at hnj2
     repeat' (first|((refine plc [] (hmt) ?_ ?_;push_cast [iO,tN,hy,Ent.d];rintro r os ⟨rfl,rfl⟩;push_cast [iO,tN,hy,Ent.d]))|((first|refine pC ?_|refine pQC ?_|refine pU ?_);push_cast [iO,tN,hy,Ent.d])|(refine pif (fun h=>?_) (fun h=>?_)<;>first|exact pN h|push_cast [iO,tN,hy,Ent.d]))
     exact ⟨(j+1,l2),⟨by simp only;omega,by simp only;rw [hnj2];exact hl2,by simp only;omega⟩,by (refine weak_fg ?_;push_cast [iO,tN]),by simp only;omega⟩
   ·have hj3:j=L.length:=by omega
    rw [hj3,hl,← hnx] at hl2
    repeat' (first|((first|refine pC ?_|refine pQC ?_|refine pU ?_);push_cast [iO,tN])|(refine pif (fun h=>?_) (fun h=>?_)<;>first|exact pN h|push_cast [iO,tN]))
    exact ⟨(n+1,l2),⟨by simp only;omega,hl2⟩,by (refine weak_fg ?_;push_cast [iO,tN]),by simp only;omega⟩
 ·have hn2:n=s.size+1:=by omega
  rw [hn2] at hl
  rw [← hl] at hR
  have hso:=sort2_pure l (by omega)
  repeat' (first |  ((refine plc [2] (hso) ?_ ?_;push_cast [iO,tN];rintro r os ⟨S0,⟨hS1,hS2⟩,rfl,rfl⟩;push_cast [iO,tN]))  | ((first|refine pC ?_|refine pQC ?_|refine pU ?_);push_cast [iO,tN])|(refine pif (fun h=>?_) (fun h=>?_)<;>first|exact pN h|push_cast [iO,tN]))
  have hcp:=compact2_pure S0 (by omega)
  rw [hS1,hS2] at hcp
  have hal:=(ascOf_spec l).2.2
  obtain ⟨R,hRR⟩:∃ R,ascOf l=R:=⟨_,rfl⟩
  rw [hRR] at hcp hR hal
  refine pl_call2 false [2] rfl rfl (by kernel_rfl) hcp ?_ nofun ?_
  ·push_cast [iO,tN]
  push_cast [iO,tN]
  rintro r os ⟨m2,rfl,rfl⟩
  have e2:(R.map strD++m2.map strD).take R.length=R.map strD:=List.take_left' (by simp)
  have e3:((R++m2).map strD).take R.length=R.map strD:=by rw [List.map_append];exact e2
  refine pl_weak (weak_frz 2 (by omega)) ?_
  push_cast [iO,tN,e2,e3]
  refine pl_of_pops ?_
  push_cast [iO,tN]
  repeat' (first|((first|refine pC ?_|refine pQC ?_|refine pU ?_);push_cast [iO,tN])|(refine pif (fun h=>?_) (fun h=>?_)<;>first|exact pN h|push_cast [iO,tN]))
  (refine retK_of [0,1] ?_;push_cast [iO,tN,hR])
set_option maxRecDepth 20000
end Go.Proofs.YthhfpcbpiphfiaaGreatDoor
