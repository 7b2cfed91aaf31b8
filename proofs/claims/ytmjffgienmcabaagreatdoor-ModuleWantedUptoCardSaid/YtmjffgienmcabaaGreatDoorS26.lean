/- What the program computes, and the plain laws of it, part 26. -/
import Derived.Test.YtmjffgienmcabaaGreatDoorS25
namespace Go.Proofs.YtmjffgienmcabaaGreatDoor
attribute [local irreducible] PL QL PWPr PCalls Weak RetK Kontr PA HA HW
open Go.RowKit
open IntWalk renaming iteOmega → iO, toNatUp → tN
set_option linter.unusedVariables false
set_option linter.unusedSimpArgs false
set_option maxRecDepth 20000
def idxD (E:List Ent):List (MK × List D):=rowsD 2 (idxOf E)
theorem putR_len {k:MK} {r:List D} {n:Nat}:∀ {l:HRows},(∀ x ∈ l,x.2.length≤n) → ∀ x ∈ putR l k r,x.2.length≤n+1
 | [],_,x,hx=>by
  simp only [putR,List.mem_singleton] at hx
  subst hx
  simp
 | (a,y) :: l,h,x,hx=>by
  unfold putR at hx
  have h1:=h (a,y) (by simp)
  split at hx
  ·rcases List.mem_cons.1 hx with rfl|hx
   ·simpa using h1
   ·have:=h x (by simp [hx]);omega
  ·rcases List.mem_cons.1 hx with rfl|hx
   ·simp only at h1 ⊢;omega
   ·exact putR_len (fun z hz=>h z (by simp [hz])) x hx
theorem idx_len (E:List Ent):∀ x ∈ idxOf E,x.2.length≤E.length:=by
 have h:∀ (n:Nat),∀ x ∈ idxOf (E.take n),x.2.length≤n:=fun n=>by
  induction n with
  | zero=>intro x hx;simp [idxOf] at hx
  | succ n ih =>
   by_cases hn:n < E.length
   ·rw [List.take_succ_eq_append_getElem hn,idxOf_snoc]
    unfold idxPut
    split
    ·exact putR_len ih
    ·intro x hx;have:=ih x hx;omega
   ·rw [List.take_of_length_le (by omega)] at ih ⊢
    intro x hx;have:=ih x hx;omega
 have:=h E.length
 rwa [List.take_length] at this
theorem idx_next {E:List Ent} {k:Nat} (hk:k < E.length):idxOf (E.take (k+1))=idxPut (idxOf (E.take k)) (E.getD k default):=by
 rw [List.take_succ_eq_append_getElem hk,idxOf_snoc,getD_lt E hk]
set_option maxHeartbeats 8000000 in
theorem new_pure (c:Cfg) (hc:FewA c) (hp:∀ y ∈ entsC c,y.pat.size≤1000000000) :
  PCalls Tryz.prog 26 [.agg c.e] [] fun r os=>r = .c (.ptr 1 0)∧os=[.map none false (idxD (entsC c)),.box 97 [.mp 0]]:=by
 have hE:=entries_pure c hc
 have hEl:=entsC_len hc
 obtain ⟨E,he⟩:∃ E,entsC c=E:=⟨_,rfl⟩
 rw [he] at hE hEl hp ⊢
 refine pcalls_of Tryz.func26 rfl (by simp [Tryz.ntmps26]) ?_
 rw [Tryz.ntmps26,Tryz.results26]
 push_cast [iO,tN]
 have cB:CutB 8 [12,13,14]:=trivial
 repeat' (first |  ((refine plc [] (hE) ?_ ?_;push_cast [iO,tN];rintro r os ⟨rfl,rfl⟩;push_cast [iO,tN]))  | ((first|refine pC ?_|refine pQC ?_|refine pU ?_);push_cast [iO,tN])|(refine pif (fun h=>?_) (fun h=>?_)<;>first|exact pN h|push_cast [iO,tN]))
 refine pwp_hidl 101 2 3 1 rfl rfl rfl (by rfl) ?_
 rintro z ⟨ty,kk,el,sz,Bx,M,Γ0,w0⟩ rfl rfl rfl rfl
 refine hw_loop (α:=Nat) (fun k=>k≤E.length) (fun k=>⟨[(3,.c (.v (.pointer (some ⟨Bx,0,none⟩)))),(14,.c (.v (.int .i64 k))),(13,.c (.v (.int .i64 E.length))),(12,.c (.sl 2 (E.map Ent.d)))],[]⟩) (fun k=>idxOf (E.take k)) (fun k=>E.length - k) 0 (Nat.zero_le _) ?_ rfl ?_
 ·simp only [List.map_cons,List.map_nil,anyT]
  (refine weak_fg ?_;push_cast [iO,tN,List.isEmpty_nil,List.isEmpty_cons,if_true,Bool.false_eq_true,if_false])
 intro k hk
 by_cases hlt:k < E.length
 case neg =>
  have hk2:k=E.length:=by omega
  refine hw_seq ?_
  refine hw_lift ?_
  repeat' (first|((first|refine pC ?_|refine pQC ?_|refine pU ?_);push_cast [iO,tN,hlt])|(refine pif (fun h=>?_) (fun h=>?_)<;>first|exact pN h|push_cast [iO,tN,hlt]))
  simp only [thenH]
  refine hw_seq ?_
  refine hw_cond ?_
  push_cast [iO,tN,hlt]
  refine ⟨fun h=>absurd h (by simp;omega),fun _=>?_⟩
  refine hw_exit ?_
  simp only [thenH]
  refine ⟨rfl,?_⟩
  rw [hk2,List.take_length]
  push_cast [iO,tN]
  repeat' (first|((first|refine pC ?_|refine pQC ?_|refine pU ?_);push_cast [iO,tN])|(refine pif (fun h=>?_) (fun h=>?_)<;>first|exact pN h|push_cast [iO,tN]))
  (refine retK_of [0,1] ?_;push_cast [iO,tN,idxD])
 refine hw_seq ?_
 refine hw_lift ?_
 repeat' (first|((first|refine pC ?_|refine pQC ?_|refine pU ?_);push_cast [iO,tN,hlt])|(refine pif (fun h=>?_) (fun h=>?_)<;>first|exact pN h|push_cast [iO,tN,hlt]))
 simp only [thenH]
 refine hw_seq ?_
 refine hw_cond ?_
 push_cast [iO,tN,hlt]
 refine ⟨fun _=>?_,fun h=>absurd h (by simp;omega)⟩
 refine hw_skip ?_
 simp only [thenH]
 refine hw_seq ?_
 refine hw_block ?_
 obtain ⟨y,hy⟩:∃ y,E.getD k default=y:=⟨_,rfl⟩
 have hym:y ∈ E:=by rw [← hy,getD_lt E hlt];exact List.getElem_mem _
 have hpre:=prefix_pure y.pat (by have:=hp y hym;omega)
 have hnx:=idx_next hlt
 rw [hy] at hnx
 refine hw_seq ?_
 refine hw_lift ?_
 repeat' (first|((first|refine pC ?_|refine pQC ?_|refine pU ?_);push_cast [iO,tN,hy,Ent.d])|(refine pif (fun h=>?_) (fun h=>?_)<;>first|exact pN h|push_cast [iO,tN,hy,Ent.d]))
 simp only [thenH]
 refine hw_seq ?_
 refine hw_lift ?_
 repeat' (first |  ((refine plc [] (hpre) ?_ ?_;push_cast [iO,tN];rintro r os ⟨rfl,rfl⟩;push_cast [iO,tN]))  | ((first|refine pC ?_|refine pQC ?_|refine pU ?_);push_cast [iO,tN])|(refine pif (fun h=>?_) (fun h=>?_)<;>first|exact pN h|push_cast [iO,tN]))
 simp only [thenH]
 refine hw_seq ?_
 refine hw_lift ?_
 repeat' (first|((first|refine pC ?_|refine pQC ?_|refine pU ?_);push_cast [iO,tN])|(refine pif (fun h=>?_) (fun h=>?_)<;>first|exact pN h|push_cast [iO,tN]))
 simp only [thenH]
 refine hw_to ⟨[(3,.c (.v (.pointer (some ⟨Bx,0,none⟩)))),(14,.c (.v (.int .i64 k))),(13,.c (.v (.int .i64 E.length))),(12,.c (.sl 2 (E.map Ent.d)))],[]⟩ (idxOf (E.take (k+1))) ?_ ?_
 rotate_left
 ·intro s' hs
  simp only [inH,thenH]
  refine hw_weak hs ?_
  refine hw_lift ?_
  repeat' (first|((first|refine pC ?_|refine pQC ?_|refine pU ?_);push_cast [iO,tN])|(refine pif (fun h=>?_) (fun h=>?_)<;>first|exact pN h|push_cast [iO,tN]))
  simp only [thenH]
  exact ⟨k+1,by (refine weak_fg ?_;push_cast [iO,tN]),rfl,by omega,by omega⟩
 rw [hnx]
 refine hw_cond ?_
 push_cast [iO,tN]
 refine ⟨fun hg=>?_,fun hg=>?_⟩
 rotate_left
 ·have hg2:¬ globM y.pat=0:=by simpa using hg
  refine hw_skip ⟨rfl,?_,?_⟩
  ·(refine weak_fg ?_;push_cast [iO,tN])
  ·unfold idxPut;rw [if_neg hg2]
 have hg2:globM y.pat=0:=by simpa using hg
 rw [hg2]
 simp only [if_true]
 refine hw_drawn (by kernel_rfl) fun hs hhs=>?_
 have hmax:∀ h ∈ hs,h.rows.length+1≤maxLen∧(h.rows.length+1) * 32≤140737488355328:=fun h hh=>by
  have h1:=idx_len (E.take k) (HE.pr h) (by rw [← hhs];exact List.mem_map.2 ⟨h,hh,rfl⟩)
  have h2:(E.take k).length≤10100:=by rw [List.length_take];omega
  have h3:h.rows.length≤10100:=Nat.le_trans h1 h2
  unfold maxLen
  exact ⟨by omega,by omega⟩
 simp only [List.length_cons,List.length_nil,Nat.reduceAdd]
 refine hah 0 ?_
 push_cast [iO,tN]
 refine hahq 1 (.c (.v (.pointer (some ⟨Bx,0,none⟩)))) rfl (lit_nil rfl rfl) ?_
 push_cast [iO,tN]
 refine hahq 2 (.c (.v (.pointer (some ⟨Bx,0,none⟩)))) rfl (lit_fa (g:=0) (off:=0) (ty:=95) rfl (by kernel_rfl) rfl) ?_
 push_cast [iO,tN]
 refine hah 4 ?_
 push_cast [iO,tN]
 refine hah 5 ?_
 push_cast [iO,tN]
 refine hahq 6 (.c (.v (.pointer (some ⟨Bx,0,none⟩)))) rfl (lit_nil rfl rfl) ?_
 push_cast [iO,tN]
 refine hahq 7 (.c (.v (.pointer (some ⟨Bx,0,none⟩)))) rfl (lit_fa (g:=0) (off:=0) (ty:=95) rfl (by kernel_rfl) rfl) ?_
 push_cast [iO,tN]
 refine hah 9 ?_
 push_cast [iO,tN]
 apply ha_hav;intro z17
 apply ha_hav;intro z16
 apply ha_hav;intro z15
 apply ha_hav;intro z14
 apply ha_hav;intro z13
 apply ha_hav;intro z12
 apply ha_hav;intro z11
 apply ha_hav;intro z10
 apply ha_hav;intro z9
 apply ha_hav;intro z8
 apply ha_hav;intro z7
 apply ha_hav;intro z6
 apply ha_hav;intro z5
 apply ha_hav;intro z4
 apply ha_hav;intro z3
 apply ha_hav;intro z2
 apply ha_hav;intro z1
 ·refine has3 3 8 11 ?_ ?_ ?_
  ·refine hown rfl (ho_load (n:=1) rfl (by kernel_rfl) (by kernel_rfl) rfl hsBox) fun _=>?_
   push_cast [iO,tN]
   exact z1
  ·refine hown rfl (ho_load (n:=1) rfl (by kernel_rfl) (by kernel_rfl) rfl hsBox) fun _=>?_
   push_cast [iO,tN]
   exact z2
  ·refine hlay rfl hstable_hidS ?_
   push_cast [iO,tN]
   exact z3
 ·refine has2 8 11 ?_ ?_
  ·refine hown rfl (ho_load (n:=1) rfl (by kernel_rfl) (by kernel_rfl) rfl hsBox) fun _=>?_
   push_cast [iO,tN]
   exact z4
  ·refine hlay rfl hstable_hidS ?_
   push_cast [iO,tN]
   exact z5
 ·refine has3 3 10 11 ?_ ?_ ?_
  ·refine hown rfl (ho_load (n:=1) rfl (by kernel_rfl) (by kernel_rfl) rfl hsBox) fun _=>?_
   push_cast [iO,tN]
   exact haw z4 (by (refine weak_fg ?_;push_cast [iO,tN]))
  ·refine hown rfl (ho_lookup (e:=98) (key:=.s (prefB y.pat)) rfl rfl rfl (by kernel_rfl) rfl (hz_of ⟨97,none,101,2,Bx,M,Γ0,w0⟩ (by kernel_rfl))) fun _=>?_
   push_cast [iO,tN]
   exact z6
  ·refine hlay rfl hstable_hidS ?_
   push_cast [iO,tN]
   exact z7
 ·refine has3 3 8 12 ?_ ?_ ?_
  ·refine hown rfl (ho_load (n:=1) rfl (by kernel_rfl) (by kernel_rfl) rfl hsBox) fun _=>?_
   push_cast [iO,tN]
   exact haw z5 (by (refine weak_fg ?_;push_cast [iO,tN]))
  ·refine hown rfl (ho_load (n:=1) rfl (by kernel_rfl) (by kernel_rfl) rfl hsBox) fun _=>?_
   push_cast [iO,tN]
   exact haw z7 (by (refine weak_fg ?_;push_cast [iO,tN]))
  ·refine hlay rfl hstable_hidS ?_
   push_cast [iO,tN]
   exact z8
 ·refine has2 10 11 ?_ ?_
  ·refine hown rfl (ho_lookup (e:=98) (key:=.s (prefB y.pat)) rfl rfl rfl (by kernel_rfl) rfl (hz_of ⟨97,none,101,2,Bx,M,Γ0,w0⟩ (by kernel_rfl))) fun _=>?_
   push_cast [iO,tN]
   exact z9
  ·refine hlay rfl hstable_hidS ?_
   push_cast [iO,tN]
   exact z10
 ·refine has2 8 12 ?_ ?_
  ·refine hown rfl (ho_load (n:=1) rfl (by kernel_rfl) (by kernel_rfl) rfl hsBox) fun _=>?_
   push_cast [iO,tN]
   exact haw z10 (by (refine weak_fg ?_;push_cast [iO,tN]))
  ·refine hlay rfl hstable_hidS ?_
   push_cast [iO,tN]
   exact z11
 ·refine has2 3 11 ?_ ?_
  ·refine hown rfl (ho_load (n:=1) rfl (by kernel_rfl) (by kernel_rfl) rfl hsBox) fun _=>?_
   push_cast [iO,tN]
   exact haw z9 (by (refine weak_fg ?_;push_cast [iO,tN]))
  ·refine hlay rfl hstable_hidS ?_
   push_cast [iO,tN]
   exact z12
 ·refine has3 3 10 12 ?_ ?_ ?_
  ·refine hown rfl (ho_load (n:=1) rfl (by kernel_rfl) (by kernel_rfl) rfl hsBox) fun _=>?_
   push_cast [iO,tN]
   exact haw z10 (by (refine weak_fg ?_;push_cast [iO,tN]))
  ·refine hown rfl (ho_lookup (e:=98) (key:=.s (prefB y.pat)) rfl rfl rfl (by kernel_rfl) rfl (hz_of ⟨97,none,101,2,Bx,M,Γ0,w0⟩ (by kernel_rfl))) fun _=>?_
   push_cast [iO,tN]
   exact haw z12 (by (refine weak_fg ?_;push_cast [iO,tN]))
  ·refine hlay rfl hstable_hidS ?_
   push_cast [iO,tN]
   exact z13
 ·refine has2 3 8 ?_ ?_
  ·refine hown rfl (ho_load (n:=1) rfl (by kernel_rfl) (by kernel_rfl) rfl hsBox) fun _=>?_
   push_cast [iO,tN]
   exact haw z11 (by (refine weak_fg ?_;push_cast [iO,tN]))
  ·refine hown rfl (ho_load (n:=1) rfl (by kernel_rfl) (by kernel_rfl) rfl hsBox) fun _=>?_
   push_cast [iO,tN]
   exact haw z13 (by (refine weak_fg ?_;push_cast [iO,tN]))
 ·refine has1 11 ?_
  ·refine hlay rfl hstable_hidS ?_
   push_cast [iO,tN]
   exact z14
 ·refine has2 10 12 ?_ ?_
  ·refine hown rfl (ho_lookup (e:=98) (key:=.s (prefB y.pat)) rfl rfl rfl (by kernel_rfl) rfl (hz_of ⟨97,none,101,2,Bx,M,Γ0,w0⟩ (by kernel_rfl))) fun _=>?_
   push_cast [iO,tN]
   exact haw z14 (by (refine weak_fg ?_;push_cast [iO,tN]))
  ·refine hlay rfl hstable_hidS ?_
   push_cast [iO,tN]
   exact z15
 ·refine has1 8 ?_
  ·refine hown rfl (ho_load (n:=1) rfl (by kernel_rfl) (by kernel_rfl) rfl hsBox) fun _=>?_
   push_cast [iO,tN]
   exact haw z15 (by (refine weak_fg ?_;push_cast [iO,tN]))
 ·refine has2 3 12 ?_ ?_
  ·refine hown rfl (ho_load (n:=1) rfl (by kernel_rfl) (by kernel_rfl) rfl hsBox) fun _=>?_
   push_cast [iO,tN]
   exact haw z14 (by (refine weak_fg ?_;push_cast [iO,tN]))
  ·refine hlay rfl hstable_hidS ?_
   push_cast [iO,tN]
   exact z16
 ·refine has2 3 10 ?_ ?_
  ·refine hown rfl (ho_load (n:=1) rfl (by kernel_rfl) (by kernel_rfl) rfl hsBox) fun _=>?_
   push_cast [iO,tN]
   exact haw z15 (by (refine weak_fg ?_;push_cast [iO,tN]))
  ·refine hown rfl (ho_lookup (e:=98) (key:=.s (prefB y.pat)) rfl rfl rfl (by kernel_rfl) rfl (hz_of ⟨97,none,101,2,Bx,M,Γ0,w0⟩ (by kernel_rfl))) fun _=>?_
   push_cast [iO,tN]
   exact haw z16 (by (refine weak_fg ?_;push_cast [iO,tN]))
 ·refine has1 12 ?_
  ·refine hlay rfl hstable_hidS ?_
   push_cast [iO,tN]
   exact z17
 ·refine has1 10 ?_
  ·refine hown rfl (ho_lookup (e:=98) (key:=.s (prefB y.pat)) rfl rfl rfl (by kernel_rfl) rfl (hz_of ⟨97,none,101,2,Bx,M,Γ0,w0⟩ (by kernel_rfl))) fun _=>?_
   push_cast [iO,tN]
   exact haw z17 (by (refine weak_fg ?_;push_cast [iO,tN]))
 ·refine has2 3 13 ?_ ?_
  ·refine hown rfl (ho_load (n:=1) rfl (by kernel_rfl) (by kernel_rfl) rfl hsBox) fun _=>?_
   push_cast [iO,tN]
   exact haw z17 (by (refine weak_fg ?_;push_cast [iO,tN]))
  ·refine hown rfl (ho_append (key:=.s (prefB y.pat)) (r:=y.d) (t:=95) (e:=98) rfl rfl (by push_cast [iO,tN,Ent.d]) (by kernel_rfl) (by kernel_rfl) (show 0 < 2 by decide) (by kernel_rfl) (by kernel_rfl) rfl hmax (by decide)) fun v=>?_
   push_cast [iO,tN]
   refine has1 3 ?_
   refine hown rfl (ho_load (n:=1) rfl (by kernel_rfl) (by kernel_rfl) rfl hpBox) fun _=>?_
   push_cast [iO,tN]
   refine has1 14 ?_
   refine hown rfl (ho_update (e:=98) rfl rfl rfl rfl) fun _=>?_
   push_cast [iO,tN]
   refine had fun Γ w h=>⟨?_,?_⟩
   ·rw [hhs] at h;unfold idxPut;rw [if_pos hg2];exact h
   ·(refine weak_fg ?_;push_cast [iO,tN])
 ·refine has1 13 ?_
  ·refine hown rfl (ho_append (key:=.s (prefB y.pat)) (r:=y.d) (t:=95) (e:=98) rfl rfl (by push_cast [iO,tN,Ent.d]) (by kernel_rfl) (by kernel_rfl) (show 0 < 2 by decide) (by kernel_rfl) (by kernel_rfl) rfl hmax (by decide)) fun v=>?_
   push_cast [iO,tN]
   refine has1 14 ?_
   refine hown rfl (ho_update (e:=98) rfl rfl rfl rfl) fun _=>?_
   push_cast [iO,tN]
   refine had fun Γ w h=>⟨?_,?_⟩
   ·rw [hhs] at h;unfold idxPut;rw [if_pos hg2];exact h
   ·(refine weak_fg ?_;push_cast [iO,tN])
end Go.Proofs.YtmjffgienmcabaaGreatDoor
namespace Go.Proofs.YtmjffgienmcabaaGreatDoor
attribute [local irreducible] PL QL PWPr PCalls Weak RetK Kontr PA
open Go.RowKit
open IntWalk renaming iteOmega → iO, toNatUp → tN
set_option linter.unusedVariables false
set_option linter.unusedSimpArgs false
set_option maxRecDepth 20000
theorem delete_pure (l:List ByteArray) (i:Nat) (hi:i < l.length) (hl:l.length≤1000000000) :
  PCalls Tryz.prog 64 [.c (.own 0 l.length),.c (.v (.int .i64 i)),.c (.v (.int .i64 (i+1)))] [.arr 9 1 (l.map strD)] fun r os=>r = .c (.own 0 (l.length - 1))∧os=[.arr 9 1 ((l.take i++(l.drop (i+1)++[(⟨#[]⟩:ByteArray)])).map strD)]:=by
 refine pcalls_of Tryz.func64 rfl (by simp [Tryz.ntmps64]) ?_
 rw [Tryz.ntmps64,Tryz.results64]
 have e1:i+(l.length - (i+1))=l.length - 1:=by omega
 push_cast [iO,tN]
 repeat' (first|((refine pwp_drawn_to ⟨[(7,.c (.v (.int .i64 l.length))),(0,.c (.own 0 (l.length - 1)))],[.arr 9 1 ((l.map strD).take i++((l.map strD).drop (i+1)++(l.map strD).drop (l.length - 1)))]⟩ (by kernel_rfl) ?_ ?_;(focus (simp only [List.length_cons,List.length_nil,Nat.reduceAdd];(repeat' first|((first|refine pah 0 ?_|refine pah 1 ?_|refine pah 2 ?_|refine pah 3 ?_|refine pah 4 ?_|refine pah 5 ?_|refine pah 7 ?_);push_cast [iO,tN,  e1 ])|(refine pad ?_;refine weak_fg ?_;push_cast [iO,tN,  e1 ])|((first|refine pas [6] ?_);push_cast [iO,tN,  e1 ]));done));push_cast [iO,tN,  e1 ]))|((first|refine pG ?_|refine pQ ?_|refine pU ?_);push_cast [iO,tN,e1])|(refine pif (fun h=>?_) (fun h=>?_)<;>first|exact pN h|push_cast [iO,tN,e1]))
 (refine retK_of [0] ?_;push_cast [iO,tN])
 have h1:l.length - (l.length - 1)=1:=by omega
 have h2:((l.map strD).take i++(l.map strD).drop (i+1)).length=l.length - 1:=by simp;omega
 have h3:((l.map strD).take i++((l.map strD).drop (i+1)++(l.map strD).drop (l.length - 1)))=((l.map strD).take i++(l.map strD).drop (i+1))++(l.map strD).drop (l.length - 1):=by rw [List.append_assoc]
 have h4:(((l.map strD).take i++(l.map strD).drop (i+1))++(l.map strD).drop (l.length - 1)).drop (l.length - 1+1)=[]:=List.drop_eq_nil_of_le (by simp only [List.length_append,List.length_take,List.length_drop,List.length_map];omega)
 rw [h1,h3,List.take_left' h2,h4]
 simp [List.map_take,List.map_drop,List.append_assoc,strD]
def Pred (P:Program) (g:FuncId) (ks:List Nat) (os:List Ob) (l:List ByteArray) (q:ByteArray → Bool):Prop:=bodyOk P g=true∧∀ x ∈ l,PCalls P g (.c (.v (.string x)) :: ks.map fun k=>.c (.ptr k 0)) os fun r os'=>r = .c (.v (.bool (q x)))∧os'=os
def idxQ (q:ByteArray → Bool) (l:List ByteArray) (k:Int):Prop:=(k = -1∧∀ x ∈ l,q x=false)∨∃ i:Nat,k=i∧i < l.length∧q (l.getD i default)=true∧∀ x ∈ l.take i,q x=false
theorem allSome_ptr:∀ ks:List Nat,allSome (ks.map fun k=>some (PV.c (.ptr k 0))) (ks.map fun k=>PV.c (.ptr k 0))
 | []=>trivial
 | k :: ks=>⟨leP_refl _,allSome_ptr ks⟩
theorem indexFunc_pure (l:List ByteArray) (hl:l.length≤1000000000) (g:FuncId) (ks:List Nat) (rest:List Ob) (q:ByteArray → Bool) (hp:Pred Tryz.prog g ks (.arr 9 1 (l.map strD) :: rest) l q) :
  PCalls Tryz.prog 59 [.c (.own 0 l.length),.c (.fn (.func g) [] ks)] (.arr 9 1 (l.map strD) :: rest) fun r os=>∃ k,idxQ q l k∧r = .c (.v (.int .i64 k))∧os = .arr 9 1 (l.map strD) :: rest:=by
 refine pcalls_of_all Tryz.func59 rfl (by simp [Tryz.ntmps59]) ?_
 rw [Tryz.ntmps59,Tryz.results59]
 push_cast [iO,tN]
 repeat' (first|((first|refine pG ?_|refine pQ ?_|refine pU ?_);push_cast [iO,tN])|(refine pif (fun h=>?_) (fun h=>?_)<;>first|exact pN h|push_cast [iO,tN]))
 refine pwp_loop2 (α:=Nat) (fun k=>k≤l.length∧∀ x ∈ l.take k,q x=false) (fun k=>⟨[(8,.c (.v (.int .i64 k))),(7,.c (.v (.int .i64 l.length))),(6,.c (.own 0 l.length)),(0,.c (.own 0 l.length)),(1,.c (.fn (.func g) [] ks))],.arr 9 1 (l.map strD) :: rest⟩) (fun k=>l.length - k) 0 ⟨by omega,by simp⟩ (weak_slots (by push_cast [iO,tN]) rfl) ?_
 rintro k ⟨hk,hpre⟩
 by_cases hlt:k < l.length
 ·have hm:l.getD k default ∈ l:=by rw [getD_lt l hlt];exact List.getElem_mem _
  have hc:=hp.2 _ hm
  have hpre2:q (l.getD k default)=false → ∀ x ∈ l.take (k+1),q x=false:=fun h x hx=>by
   rw [List.take_succ_eq_append_getElem hlt] at hx
   rcases List.mem_append.1 hx with hx|hx
   ·exact hpre x hx
   ·simp at hx;subst hx;rw [← getD_lt l hlt];exact h
  cases hq:q (l.getD k default)
  all_goals rw [hq] at hc
  all_goals repeat' (first |  (refine pl_call_all rfl (by push_cast [iO,tN]) rfl hp.1 (by push_cast [iO,tN]) ?_ hc ?_;(focus (unfold callArgs;push_cast [iO,tN];exact allSome_ptr ks));rintro r os ⟨rfl,rfl⟩;refine pl_of_pops ?_;push_cast [iO,tN])  | ((first|refine pG ?_|refine pQ ?_|refine pU ?_);push_cast [iO,tN])|(refine pif (fun h=>?_) (fun h=>?_)<;>first|exact pN h|push_cast [iO,tN]))
  ·exact ⟨k+1,⟨by omega,hpre2 hq⟩,weak_slots (by push_cast [iO,tN]) rfl,by omega⟩
  ·exact ⟨_,rfl,by push_cast [iO,tN],k,.inr ⟨k,rfl,hlt,hq,hpre⟩,rfl,rfl⟩
 ·rw [List.take_of_length_le (by omega)] at hpre
  repeat' (first|((first|refine pG ?_|refine pQ ?_|refine pU ?_);push_cast [iO,tN])|(refine pif (fun h=>?_) (fun h=>?_)<;>first|exact pN h|push_cast [iO,tN]))
  exact ⟨_,rfl,by push_cast [iO,tN],-1,.inl ⟨rfl,hpre⟩,rfl,rfl⟩
theorem containsFunc_pure (l:List ByteArray) (hl:l.length≤1000000000) (g:FuncId) (ks:List Nat) (rest:List Ob) (q:ByteArray → Bool) (hp:Pred Tryz.prog g ks (.arr 9 1 (l.map strD) :: rest) l q) :
  PCalls Tryz.prog 61 [.c (.own 0 l.length),.c (.fn (.func g) [] ks)] (.arr 9 1 (l.map strD) :: rest) fun r os=>r = .c (.v (.bool (l.any q)))∧os = .arr 9 1 (l.map strD) :: rest:=by
 refine pcalls_of_all Tryz.func61 rfl (by simp [Tryz.ntmps61]) ?_
 rw [Tryz.ntmps61,Tryz.results61]
 push_cast [iO,tN]
 repeat' (first |  (refine pl_call_all rfl (by push_cast [iO,tN]) rfl (by kernel_rfl) (by push_cast [iO,tN]) ?_ (indexFunc_pure l hl g ks rest q hp) ?_;(focus (unfold callArgs;push_cast [iO,tN]));rintro r os ⟨k,hk,rfl,rfl⟩;refine pl_of_pops ?_;push_cast [iO,tN])  | ((first|refine pG ?_|refine pQ ?_|refine pU ?_);push_cast [iO,tN])|(refine pif (fun h=>?_) (fun h=>?_)<;>first|exact pN h|push_cast [iO,tN]))
 refine ⟨_,rfl,by push_cast [iO,tN],?_,rfl⟩
 rcases hk with ⟨rfl,h⟩|⟨i,rfl,hi,hq,_⟩
 ·have:l.any q=false:=by rw [List.any_eq_false];intro x hx;simp [h x hx]
  rw [this];rfl
 ·have:l.any q=true:=List.any_eq_true.2 ⟨l.getD i default,by rw [getD_lt l hi];exact List.getElem_mem _,hq⟩
  rw [this];simp
structure DInv (l:List ByteArray) (q:ByteArray → Bool) (j i:Nat) (m:List ByteArray):Prop where
 len:m.length=l.length
 ij:i < j
 jl:j≤l.length
 pre:m.take i=(l.take j).filter fun x=>!q x
 post:m.drop j=l.drop j
theorem DInv.start {l:List ByteArray} {q:ByteArray → Bool} {i:Nat} (h1:i < l.length) (h2:q (l.getD i default)=true) (h3:∀ x ∈ l.take i,q x=false):DInv l q (i+1) i l:=by
 refine ⟨rfl,by omega,by omega,?_,rfl⟩
 rw [List.take_succ_eq_append_getElem h1,List.filter_append]
 rw [getD_lt l h1] at h2
 rw [List.filter_eq_self.2 fun x hx=>by simp [h3 x hx]]
 simp [h2]
theorem DInv.get {l m:List ByteArray} {q:ByteArray → Bool} {j i:Nat} (h:DInv l q j i m) (hj:j < l.length):m.getD j default=l.getD j default:=by
 have:=congrArg (fun x=>x[0]?) h.post
 simp only [List.getElem?_drop,Nat.add_zero] at this
 simp [List.getD,this]
theorem DInv.drop {l m:List ByteArray} {q:ByteArray → Bool} {j i:Nat} (h:DInv l q j i m) (hj:j < l.length) (hq:q (l.getD j default)=true):DInv l q (j+1) i m:=by
 refine ⟨h.len,by have:=h.ij;omega,by omega,?_,?_⟩
 ·rw [List.take_succ_eq_append_getElem hj,List.filter_append,h.pre]
  rw [getD_lt l hj] at hq
  simp [hq]
 ·have:=congrArg (List.drop 1) h.post
  simpa [List.drop_drop] using this
theorem DInv.keep {l m:List ByteArray} {q:ByteArray → Bool} {j i:Nat} (h:DInv l q j i m) (hj:j < l.length) (hq:q (l.getD j default)=false):DInv l q (j+1) (i+1) (m.set i (l.getD j default)):=by
 have hij:=h.ij
 have hl:=h.len
 refine ⟨by simpa using hl,by omega,by omega,?_,?_⟩
 ·have hi:i < (m.set i (l.getD j default)).length:=by rw [List.length_set];omega
  rw [List.take_succ_eq_append_getElem hi,List.take_set_of_le (Nat.le_refl _),h.pre,List.getElem_set_self,List.take_succ_eq_append_getElem hj,List.filter_append]
  rw [getD_lt l hj] at hq ⊢
  simp [hq]
 ·rw [List.drop_set_of_lt (by omega)]
  have:=congrArg (List.drop 1) h.post
  simpa [List.drop_drop] using this
theorem DInv.done {l m:List ByteArray} {q:ByteArray → Bool} {j i:Nat} (h:DInv l q j i m) (hj:¬ j < l.length):m.take i=(l.filter fun x=>!q x)∧i=(l.filter fun x=>!q x).length:=by
 have:=h.pre
 have e:l.take j=l:=List.take_of_length_le (by omega)
 rw [e] at this
 refine ⟨this,?_⟩
 rw [← this,List.length_take]
 have:=h.ij;have:=h.jl;have:=h.len
 omega
theorem deleteFunc_pure (l:List ByteArray) (hl:l.length≤1000000000) (g:FuncId) (ks:List Nat) (rest:List Ob) (q:ByteArray → Bool) (hp:∀ m:List ByteArray,m.length=l.length → Pred Tryz.prog g ks (.arr 9 1 (m.map strD) :: rest) l q) :
  PCalls Tryz.prog 65 [.c (.own 0 l.length),.c (.fn (.func g) [] ks)] (.arr 9 1 (l.map strD) :: rest) fun r os=>r = .c (.own 0 (l.filter fun x=>!q x).length)∧∃ m:List ByteArray,os = .arr 9 1 (((l.filter fun x=>!q x)++m).map strD) :: rest:=by
 refine pcalls_of_all Tryz.func65 rfl (by simp [Tryz.ntmps65]) ?_
 rw [Tryz.ntmps65,Tryz.results65]
 push_cast [iO,tN]
 have hcall:=indexFunc_pure l hl g ks rest q (hp l rfl)
 rcases Decidable.em (∃ x ∈ l,q x=true) with hex|hex
 ·have hc2:PCalls Tryz.prog 59 [.c (.own 0 l.length),.c (.fn (.func g) [] ks)] (.arr 9 1 (l.map strD) :: rest) fun r os=>∃ i:Nat,(i < l.length∧q (l.getD i default)=true∧∀ x ∈ l.take i,q x=false)∧r = .c (.v (.int .i64 i))∧os = .arr 9 1 (l.map strD) :: rest:=hcall.mono (by
   rintro r os ⟨k,⟨rfl,h⟩|⟨i,rfl,h⟩,rfl,rfl⟩
   ·obtain ⟨x,hx,hq⟩:=hex;rw [h x hx] at hq;cases hq
   ·exact ⟨i,h,rfl,rfl⟩)
  repeat' (first |  (refine pl_call_all rfl (by push_cast [iO,tN]) rfl (by kernel_rfl) (by push_cast [iO,tN]) ?_ hc2 ?_;(focus (unfold callArgs;push_cast [iO,tN]));rintro r os ⟨i0,⟨h1,h2,h3⟩,rfl,rfl⟩;refine pl_of_pops ?_;push_cast [iO,tN])  | ((first|refine pG ?_|refine pQ ?_|refine pU ?_);push_cast [iO,tN])|(refine pif (fun h=>?_) (fun h=>?_)<;>first|exact pN h|push_cast [iO,tN]))
  refine pwp_loop2 (α:=Nat × Nat × List ByteArray) (fun x=>DInv l q x.1 x.2.1 x.2.2) (fun x=>⟨[(6,.c (.v (.int .i64 x.1))),(5,.c (.v (.int .i64 x.2.1))),(0,.c (.own 0 l.length)),(1,.c (.fn (.func g) [] ks))],.arr 9 1 (x.2.2.map strD) :: rest⟩) (fun x=>l.length - x.1) (i0+1,i0,l) (DInv.start h1 h2 h3) (weak_slots (by push_cast [iO,tN]) rfl) ?_
  rintro ⟨j,i,m⟩ hD
  simp only at hD
  have hml:=hD.len
  have hij:=hD.ij
  have hjl:=hD.jl
  by_cases hlt:j < l.length
  ·have hmem:l.getD j default ∈ l:=by rw [getD_lt l hlt];exact List.getElem_mem _
   have hv:=hD.get hlt
   have hc:=(hp m hml).2 _ hmem
   cases hq:q (l.getD j default)
   all_goals rw [hq] at hc
   all_goals repeat' (first|(refine pl_call_all rfl (by push_cast [iO,tN,hv,hml]) rfl (hp m hml).1 (by push_cast [iO,tN,hv,hml]) ?_ hc ?_;(focus (unfold callArgs;push_cast [iO,tN,hv,hml];exact allSome_ptr ks));rintro r os ⟨rfl,rfl⟩;refine pl_of_pops ?_;push_cast [iO,tN,hv,hml])|((first|refine pG ?_|refine pQ ?_|refine pU ?_);push_cast [iO,tN,hv,hml])|(refine pif (fun h=>?_) (fun h=>?_)<;>first|exact pN h|push_cast [iO,tN,hv,hml]))
   ·exact ⟨(j+1,i+1,m.set i (l.getD j default)),hD.keep hlt hq,Weak.trans (weak_slots (s':=⟨[(6,.c (.v (.int .i64 (j+1)))),(5,.c (.v (.int .i64 (i+1)))),(0,.c (.own 0 l.length)),(1,.c (.fn (.func g) [] ks))],_⟩) (by push_cast [iO,tN]) rfl) (weak_slots (by push_cast [iO,tN]) (by simp [List.map_set,strD])),by simp only;omega⟩
   ·exact ⟨(j+1,i,m),hD.drop hlt hq,weak_slots (by push_cast [iO,tN]) rfl,by simp only;omega⟩
  ·have hd:=hD.done hlt
   have hz:(m.map strD).length=l.length:=by simp [hml]
   have hend:((m.map strD).take i++(List.replicate (l.length - i) [D.v (.string ⟨#[]⟩)]++(m.map strD).drop (i+(l.length - i))))=((l.filter fun x=>!q x)++List.replicate (l.length - i) (⟨#[]⟩:ByteArray)).map strD:=by
    rw [List.drop_eq_nil_of_le (by omega),← List.map_take,hd.1]
    simp [strD]
   by_cases hi0:i=0
   ·subst hi0
    have hend2:List.replicate l.length [D.v (.string ⟨#[]⟩)]++(m.map strD).drop l.length=((l.filter fun x=>!q x)++List.replicate l.length (⟨#[]⟩:ByteArray)).map strD:=by simpa using hend
    repeat' (first|((first|refine pG ?_|refine pQ ?_|refine pU ?_);push_cast [iO,tN,hml])|(refine pif (fun h=>?_) (fun h=>?_)<;>first|exact pN h|push_cast [iO,tN,hml]))
    refine pl_weak (weak_seg 38 1 (k:=0) (n:=l.length) rfl) ?_
    refine pl_of_pops ?_
    push_cast [iO,tN,hml]
    repeat' (first|((first|refine pG ?_|refine pQ ?_|refine pU ?_);push_cast [iO,tN,hml])|(refine pif (fun h=>?_) (fun h=>?_)<;>first|exact pN h|push_cast [iO,tN,hml]))
    refine ⟨.c (.own 0 0),rfl,by push_cast [iO,tN],by rw [← hd.2],List.replicate l.length ⟨#[]⟩,?_⟩
    rw [← List.map_append,← hend2]
   ·repeat' (first|((first|refine pG ?_|refine pQ ?_|refine pU ?_);push_cast [iO,tN,hml,hi0])|(refine pif (fun h=>?_) (fun h=>?_)<;>first|exact pN h|push_cast [iO,tN,hml,hi0]))
    refine ⟨.c (.own 0 i),rfl,by push_cast [iO,tN],by rw [← hd.2],List.replicate (l.length - i) ⟨#[]⟩,?_⟩
    rw [← List.map_append,← hend]
 ·have hnone:∀ x ∈ l,q x=false:=fun x hx=>by
   cases h:q x
   ·rfl
   ·exact absurd ⟨x,hx,h⟩ hex
  have hc2:PCalls Tryz.prog 59 [.c (.own 0 l.length),.c (.fn (.func g) [] ks)] (.arr 9 1 (l.map strD) :: rest) fun r os=>r = .c (.v (.int .i64 (-1)))∧os = .arr 9 1 (l.map strD) :: rest:=hcall.mono (by
   rintro r os ⟨k,⟨rfl,h⟩|⟨i,rfl,hi,hq,_⟩,rfl,rfl⟩
   ·exact ⟨rfl,rfl⟩
   ·rw [hnone _ (by rw [getD_lt l hi];exact List.getElem_mem _)] at hq;cases hq)
  repeat' (first |  (refine pl_call_all rfl (by push_cast [iO,tN]) rfl (by kernel_rfl) (by push_cast [iO,tN]) ?_ hc2 ?_;(focus (unfold callArgs;push_cast [iO,tN]));rintro r os ⟨rfl,rfl⟩;refine pl_of_pops ?_;push_cast [iO,tN])  | ((first|refine pG ?_|refine pQ ?_|refine pU ?_);push_cast [iO,tN])|(refine pif (fun h=>?_) (fun h=>?_)<;>first|exact pN h|push_cast [iO,tN]))
  have hf:l.filter (fun x=>!q x)=l:=List.filter_eq_self.2 fun x hx=>by simp [hnone x hx]
  rw [hf]
  exact ⟨_,rfl,by push_cast [iO,tN],rfl,[],by simp⟩
end Go.Proofs.YtmjffgienmcabaaGreatDoor
