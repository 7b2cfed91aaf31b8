/- What the program computes, and the plain laws of it, part 26. -/
import Derived.Test.YtmjffgienmcabaaGreatDoorR24
import Derived.Test.YtmjffgienmcabaaGreatDoorR25
namespace Go.Proofs.YtmjffgienmcabaaGreatDoor
attribute [local irreducible] PL QL PWPr PCalls Weak RetK Kontr PA HA HW
open Go.RowKit
open IntWalk renaming iteOmega → iO, toNatUp → tN
set_option linter.unusedVariables false
set_option linter.unusedSimpArgs false
set_option maxRecDepth 20000
def idxD (E:List Ent):List (MK × List D):=rowsD 2 (idxOf E)
theorem putR_len {k:MK} {r:List D} {n:Nat}:∀ {l:HRows},(∀ x ∈ l,x.2.length≤n) → ∀ x ∈ putR l k r,x.2.length≤n+1
 | [],_,x,hx=>by
  simp only [putR,List.mem_singleton] at hx
  subst hx
  simp
 | (a,y) :: l,h,x,hx=>by
  unfold putR at hx
  have h1:=h (a,y) (by simp)
  split at hx
  ·rcases List.mem_cons.1 hx with rfl|hx
   ·simpa using h1
   ·have:=h x (by simp [hx]);omega
  ·rcases List.mem_cons.1 hx with rfl|hx
   ·simp only at h1 ⊢;omega
   ·exact putR_len (fun z hz=>h z (by simp [hz])) x hx
theorem idx_len (E:List Ent):∀ x ∈ idxOf E,x.2.length≤E.length:=by
 have h:∀ (n:Nat),∀ x ∈ idxOf (E.take n),x.2.length≤n:=fun n=>by
  induction n with
  | zero=>intro x hx;simp [idxOf] at hx
  | succ n ih =>
   by_cases hn:n < E.length
   ·rw [List.take_succ_eq_append_getElem hn,idxOf_snoc]
    unfold idxPut
    split
    ·exact putR_len ih
    ·intro x hx;have:=ih x hx;omega
   ·rw [List.take_of_length_le (by omega)] at ih ⊢
    intro x hx;have:=ih x hx;omega
 have:=h E.length
 rwa [List.take_length] at this
theorem idx_next {E:List Ent} {k:Nat} (hk:k < E.length):idxOf (E.take (k+1))=idxPut (idxOf (E.take k)) (E.getD k default):=by
 rw [List.take_succ_eq_append_getElem hk,idxOf_snoc,getD_lt E hk]
set_option maxHeartbeats 8000000 in
theorem new_pure (c:Cfg) (hc:FewA c) (hp:∀ y ∈ entsC c,y.pat.size≤1000000000) :
  PCalls Tryz.prog 26 [.agg c.e] [] fun r os=>r = .c (.ptr 1 0)∧os=[.map none false (idxD (entsC c)),.box 97 [.mp 0]]:=by
 have hE:=entries_pure c hc
 have hEl:=entsC_len hc
 obtain ⟨E,he⟩:∃ E,entsC c=E:=⟨_,rfl⟩
 rw [he] at hE hEl hp ⊢
 refine pcalls_of Tryz.func26 rfl (by simp [Tryz.ntmps26]) ?_
 rw [Tryz.ntmps26,Tryz.results26]
 push_cast [iO,tN]
 have cB:CutB 8 [12,13,14]:=trivial
 repeat' (first |  ((refine plc [] (hE) ?_ ?_;push_cast [iO,tN];rintro r os ⟨rfl,rfl⟩;push_cast [iO,tN]))  | ((first|refine pC ?_|refine pQC ?_|refine pU ?_);push_cast [iO,tN])|(refine pif (fun h=>?_) (fun h=>?_)<;>first|exact pN h|push_cast [iO,tN]))
 refine pwp_hidl 101 2 3 1 rfl rfl rfl (by rfl) ?_
 rintro z ⟨ty,kk,el,sz,Bx,M,Γ0,w0⟩ rfl rfl rfl rfl
 refine hw_loop (α:=Nat) (fun k=>k≤E.length) (fun k=>⟨[(3,.c (.v (.pointer (some ⟨Bx,0,none⟩)))),(14,.c (.v (.int .i64 k))),(13,.c (.v (.int .i64 E.length))),(12,.c (.sl 2 (E.map Ent.d)))],[]⟩) (fun k=>idxOf (E.take k)) (fun k=>E.length - k) 0 (Nat.zero_le _) ?_ rfl ?_
 ·simp only [List.map_cons,List.map_nil,anyT]
  (refine weak_fg ?_;push_cast [iO,tN,List.isEmpty_nil,List.isEmpty_cons,if_true,Bool.false_eq_true,if_false])
 intro k hk
 by_cases hlt:k < E.length
 case neg =>
  have hk2:k=E.length:=by omega
  refine hw_seq ?_
  refine hw_lift ?_
  repeat' (first|((first|refine pC ?_|refine pQC ?_|refine pU ?_);push_cast [iO,tN,hlt])|(refine pif (fun h=>?_) (fun h=>?_)<;>first|exact pN h|push_cast [iO,tN,hlt]))
  simp only [thenH]
  refine hw_seq ?_
  refine hw_cond ?_
  push_cast [iO,tN,hlt]
  refine ⟨fun h=>absurd h (by simp;omega),fun _=>?_⟩
  refine hw_exit ?_
  simp only [thenH]
  refine ⟨rfl,?_⟩
  rw [hk2,List.take_length]
  push_cast [iO,tN]
  repeat' (first|((first|refine pC ?_|refine pQC ?_|refine pU ?_);push_cast [iO,tN])|(refine pif (fun h=>?_) (fun h=>?_)<;>first|exact pN h|push_cast [iO,tN]))
  (refine retK_of [0,1] ?_;push_cast [iO,tN,idxD])
 refine hw_seq ?_
 refine hw_lift ?_
 repeat' (first|((first|refine pC ?_|refine pQC ?_|refine pU ?_);push_cast [iO,tN,hlt])|(refine pif (fun h=>?_) (fun h=>?_)<;>first|exact pN h|push_cast [iO,tN,hlt]))
 simp only [thenH]
 refine hw_seq ?_
 refine hw_cond ?_
 push_cast [iO,tN,hlt]
 refine ⟨fun _=>?_,fun h=>absurd h (by simp;omega)⟩
 refine hw_skip ?_
 simp only [thenH]
 refine hw_seq ?_
 refine hw_block ?_
 obtain ⟨y,hy⟩:∃ y,E.getD k default=y:=⟨_,rfl⟩
 have hym:y ∈ E:=by rw [← hy,getD_lt E hlt];exact List.getElem_mem _
 have hpre:=prefix_pure y.pat (by have:=hp y hym;omega)
 have hnx:=idx_next hlt
 rw [hy] at hnx
 refine hw_seq ?_
 refine hw_lift ?_
 repeat' (first|((first|refine pC ?_|refine pQC ?_|refine pU ?_);push_cast [iO,tN,hy,Ent.d])|(refine pif (fun h=>?_) (fun h=>?_)<;>first|exact pN h|push_cast [iO,tN,hy,Ent.d]))
 simp only [thenH]
 refine hw_seq ?_
 refine hw_lift ?_
 repeat' (first |  ((refine plc [] (hpre) ?_ ?_;push_cast [iO,tN];rintro r os ⟨rfl,rfl⟩;push_cast [iO,tN]))  | ((first|refine pC ?_|refine pQC ?_|refine pU ?_);push_cast [iO,tN])|(refine pif (fun h=>?_) (fun h=>?_)<;>first|exact pN h|push_cast [iO,tN]))
 simp only [thenH]
 refine hw_seq ?_
 refine hw_lift ?_
 repeat' (first|((first|refine pC ?_|refine pQC ?_|refine pU ?_);push_cast [iO,tN])|(refine pif (fun h=>?_) (fun h=>?_)<;>first|exact pN h|push_cast [iO,tN]))
 simp only [thenH]
 refine hw_to ⟨[(3,.c (.v (.pointer (some ⟨Bx,0,none⟩)))),(14,.c (.v (.int .i64 k))),(13,.c (.v (.int .i64 E.length))),(12,.c (.sl 2 (E.map Ent.d)))],[]⟩ (idxOf (E.take (k+1))) ?_ ?_
 rotate_left
 ·intro s' hs
  simp only [inH,thenH]
  refine hw_weak hs ?_
  refine hw_lift ?_
  repeat' (first|((first|refine pC ?_|refine pQC ?_|refine pU ?_);push_cast [iO,tN])|(refine pif (fun h=>?_) (fun h=>?_)<;>first|exact pN h|push_cast [iO,tN]))
  simp only [thenH]
  exact ⟨k+1,by (refine weak_fg ?_;push_cast [iO,tN]),rfl,by omega,by omega⟩
 rw [hnx]
 refine hw_cond ?_
 push_cast [iO,tN]
 refine ⟨fun hg=>?_,fun hg=>?_⟩
 rotate_left
 ·have hg2:¬ globM y.pat=0:=by simpa using hg
  refine hw_skip ⟨rfl,?_,?_⟩
  ·(refine weak_fg ?_;push_cast [iO,tN])
  ·unfold idxPut;rw [if_neg hg2]
 have hg2:globM y.pat=0:=by simpa using hg
 rw [hg2]
 simp only [if_true]
 refine hw_drawn (by kernel_rfl) fun hs hhs=>?_
 have hmax:∀ h ∈ hs,h.rows.length+1≤maxLen∧(h.rows.length+1) * 32≤140737488355328:=fun h hh=>by
  have h1:=idx_len (E.take k) (HE.pr h) (by rw [← hhs];exact List.mem_map.2 ⟨h,hh,rfl⟩)
  have h2:(E.take k).length≤10100:=by rw [List.length_take];omega
  have h3:h.rows.length≤10100:=Nat.le_trans h1 h2
  unfold maxLen
  exact ⟨by omega,by omega⟩
 simp only [List.length_cons,List.length_nil,Nat.reduceAdd]
 refine hah 0 ?_
 push_cast [iO,tN]
 refine hahq 1 (.c (.v (.pointer (some ⟨Bx,0,none⟩)))) rfl (lit_nil rfl rfl) ?_
 push_cast [iO,tN]
 refine hahq 2 (.c (.v (.pointer (some ⟨Bx,0,none⟩)))) rfl (lit_fa (g:=0) (off:=0) (ty:=95) rfl (by kernel_rfl) rfl) ?_
 push_cast [iO,tN]
 refine hah 4 ?_
 push_cast [iO,tN]
 refine hah 5 ?_
 push_cast [iO,tN]
 refine hahq 6 (.c (.v (.pointer (some ⟨Bx,0,none⟩)))) rfl (lit_nil rfl rfl) ?_
 push_cast [iO,tN]
 refine hahq 7 (.c (.v (.pointer (some ⟨Bx,0,none⟩)))) rfl (lit_fa (g:=0) (off:=0) (ty:=95) rfl (by kernel_rfl) rfl) ?_
 push_cast [iO,tN]
 refine hah 9 ?_
 push_cast [iO,tN]
 refine has3 3 8 11 ?_ ?_ ?_
 ·refine hown rfl (ho_load (n:=1) rfl (by kernel_rfl) (by kernel_rfl) rfl hsBox) fun _=>?_
  push_cast [iO,tN]
  refine has2 8 11 ?_ ?_
  ·refine hown rfl (ho_load (n:=1) rfl (by kernel_rfl) (by kernel_rfl) rfl hsBox) fun _=>?_
   push_cast [iO,tN]
   refine has2 10 11 ?_ ?_
   ·refine hown rfl (ho_lookup (e:=98) (key:=.s (prefB y.pat)) rfl rfl rfl (by kernel_rfl) rfl (hz_of ⟨97,none,101,2,Bx,M,Γ0,w0⟩ (by kernel_rfl))) fun _=>?_
    push_cast [iO,tN]
    refine has1 11 ?_
    ·refine hlay rfl hstable_hidS ?_
     push_cast [iO,tN]
     refine has1 12 ?_
     ·refine hlay rfl hstable_hidS ?_
      push_cast [iO,tN]
      refine has1 13 ?_
      ·refine hown rfl (ho_append (key:=.s (prefB y.pat)) (r:=y.d) (t:=95) (e:=98) rfl rfl (by push_cast [iO,tN,Ent.d]) (by kernel_rfl) (by kernel_rfl) (show 0 < 2 by decide) (by kernel_rfl) (by kernel_rfl) rfl hmax (by decide)) fun v=>?_
       push_cast [iO,tN]
       refine has1 14 ?_
       ·refine hown rfl (ho_update (e:=98) rfl rfl rfl rfl) fun _=>?_
        push_cast [iO,tN]
        refine had fun Γ w h=>⟨?_,?_⟩
        ·rw [hhs] at h;unfold idxPut;rw [if_pos hg2];exact h
        ·(refine weak_fg ?_;push_cast [iO,tN])
   ·refine hlay rfl hstable_hidS ?_
    push_cast [iO,tN]
    refine has2 10 12 ?_ ?_
    ·refine hown rfl (ho_lookup (e:=98) (key:=.s (prefB y.pat)) rfl rfl rfl (by kernel_rfl) rfl (hz_of ⟨97,none,101,2,Bx,M,Γ0,w0⟩ (by kernel_rfl))) fun _=>?_
     push_cast [iO,tN]
     refine has1 12 ?_
     ·refine hlay rfl hstable_hidS ?_
      push_cast [iO,tN]
      refine has1 13 ?_
      ·refine hown rfl (ho_append (key:=.s (prefB y.pat)) (r:=y.d) (t:=95) (e:=98) rfl rfl (by push_cast [iO,tN,Ent.d]) (by kernel_rfl) (by kernel_rfl) (show 0 < 2 by decide) (by kernel_rfl) (by kernel_rfl) rfl hmax (by decide)) fun v=>?_
       push_cast [iO,tN]
       refine has1 14 ?_
       ·refine hown rfl (ho_update (e:=98) rfl rfl rfl rfl) fun _=>?_
        push_cast [iO,tN]
        refine had fun Γ w h=>⟨?_,?_⟩
        ·rw [hhs] at h;unfold idxPut;rw [if_pos hg2];exact h
        ·(refine weak_fg ?_;push_cast [iO,tN])
    ·refine hlay rfl hstable_hidS ?_
     push_cast [iO,tN]
     refine has1 10 ?_
     ·refine hown rfl (ho_lookup (e:=98) (key:=.s (prefB y.pat)) rfl rfl rfl (by kernel_rfl) rfl (hz_of ⟨97,none,101,2,Bx,M,Γ0,w0⟩ (by kernel_rfl))) fun _=>?_
      push_cast [iO,tN]
      refine has1 13 ?_
      ·refine hown rfl (ho_append (key:=.s (prefB y.pat)) (r:=y.d) (t:=95) (e:=98) rfl rfl (by push_cast [iO,tN,Ent.d]) (by kernel_rfl) (by kernel_rfl) (show 0 < 2 by decide) (by kernel_rfl) (by kernel_rfl) rfl hmax (by decide)) fun v=>?_
       push_cast [iO,tN]
       refine has1 14 ?_
       ·refine hown rfl (ho_update (e:=98) rfl rfl rfl rfl) fun _=>?_
        push_cast [iO,tN]
        refine had fun Γ w h=>⟨?_,?_⟩
        ·rw [hhs] at h;unfold idxPut;rw [if_pos hg2];exact h
        ·(refine weak_fg ?_;push_cast [iO,tN])
  ·refine hlay rfl hstable_hidS ?_
   push_cast [iO,tN]
   refine has2 8 12 ?_ ?_
   ·refine hown rfl (ho_load (n:=1) rfl (by kernel_rfl) (by kernel_rfl) rfl hsBox) fun _=>?_
    push_cast [iO,tN]
    refine has2 10 12 ?_ ?_
    ·refine hown rfl (ho_lookup (e:=98) (key:=.s (prefB y.pat)) rfl rfl rfl (by kernel_rfl) rfl (hz_of ⟨97,none,101,2,Bx,M,Γ0,w0⟩ (by kernel_rfl))) fun _=>?_
     push_cast [iO,tN]
     refine has1 12 ?_
     ·refine hlay rfl hstable_hidS ?_
      push_cast [iO,tN]
      refine has1 13 ?_
      ·refine hown rfl (ho_append (key:=.s (prefB y.pat)) (r:=y.d) (t:=95) (e:=98) rfl rfl (by push_cast [iO,tN,Ent.d]) (by kernel_rfl) (by kernel_rfl) (show 0 < 2 by decide) (by kernel_rfl) (by kernel_rfl) rfl hmax (by decide)) fun v=>?_
       push_cast [iO,tN]
       refine has1 14 ?_
       ·refine hown rfl (ho_update (e:=98) rfl rfl rfl rfl) fun _=>?_
        push_cast [iO,tN]
        refine had fun Γ w h=>⟨?_,?_⟩
        ·rw [hhs] at h;unfold idxPut;rw [if_pos hg2];exact h
        ·(refine weak_fg ?_;push_cast [iO,tN])
    ·refine hlay rfl hstable_hidS ?_
     push_cast [iO,tN]
     refine has1 10 ?_
     ·refine hown rfl (ho_lookup (e:=98) (key:=.s (prefB y.pat)) rfl rfl rfl (by kernel_rfl) rfl (hz_of ⟨97,none,101,2,Bx,M,Γ0,w0⟩ (by kernel_rfl))) fun _=>?_
      push_cast [iO,tN]
      refine has1 13 ?_
      ·refine hown rfl (ho_append (key:=.s (prefB y.pat)) (r:=y.d) (t:=95) (e:=98) rfl rfl (by push_cast [iO,tN,Ent.d]) (by kernel_rfl) (by kernel_rfl) (show 0 < 2 by decide) (by kernel_rfl) (by kernel_rfl) rfl hmax (by decide)) fun v=>?_
       push_cast [iO,tN]
       refine has1 14 ?_
       ·refine hown rfl (ho_update (e:=98) rfl rfl rfl rfl) fun _=>?_
        push_cast [iO,tN]
        refine had fun Γ w h=>⟨?_,?_⟩
        ·rw [hhs] at h;unfold idxPut;rw [if_pos hg2];exact h
        ·(refine weak_fg ?_;push_cast [iO,tN])
   ·refine hlay rfl hstable_hidS ?_
    push_cast [iO,tN]
    refine has1 8 ?_
    ·refine hown rfl (ho_load (n:=1) rfl (by kernel_rfl) (by kernel_rfl) rfl hsBox) fun _=>?_
     push_cast [iO,tN]
     refine has1 10 ?_
     ·refine hown rfl (ho_lookup (e:=98) (key:=.s (prefB y.pat)) rfl rfl rfl (by kernel_rfl) rfl (hz_of ⟨97,none,101,2,Bx,M,Γ0,w0⟩ (by kernel_rfl))) fun _=>?_
      push_cast [iO,tN]
      refine has1 13 ?_
      ·refine hown rfl (ho_append (key:=.s (prefB y.pat)) (r:=y.d) (t:=95) (e:=98) rfl rfl (by push_cast [iO,tN,Ent.d]) (by kernel_rfl) (by kernel_rfl) (show 0 < 2 by decide) (by kernel_rfl) (by kernel_rfl) rfl hmax (by decide)) fun v=>?_
       push_cast [iO,tN]
       refine has1 14 ?_
       ·refine hown rfl (ho_update (e:=98) rfl rfl rfl rfl) fun _=>?_
        push_cast [iO,tN]
        refine had fun Γ w h=>⟨?_,?_⟩
        ·rw [hhs] at h;unfold idxPut;rw [if_pos hg2];exact h
        ·(refine weak_fg ?_;push_cast [iO,tN])
 ·refine hown rfl (ho_load (n:=1) rfl (by kernel_rfl) (by kernel_rfl) rfl hsBox) fun _=>?_
  push_cast [iO,tN]
  refine has3 3 10 11 ?_ ?_ ?_
  ·refine hown rfl (ho_load (n:=1) rfl (by kernel_rfl) (by kernel_rfl) rfl hsBox) fun _=>?_
   push_cast [iO,tN]
   refine has2 10 11 ?_ ?_
   ·refine hown rfl (ho_lookup (e:=98) (key:=.s (prefB y.pat)) rfl rfl rfl (by kernel_rfl) rfl (hz_of ⟨97,none,101,2,Bx,M,Γ0,w0⟩ (by kernel_rfl))) fun _=>?_
    push_cast [iO,tN]
    refine has1 11 ?_
    ·refine hlay rfl hstable_hidS ?_
     push_cast [iO,tN]
     refine has1 12 ?_
     ·refine hlay rfl hstable_hidS ?_
      push_cast [iO,tN]
      refine has1 13 ?_
      ·refine hown rfl (ho_append (key:=.s (prefB y.pat)) (r:=y.d) (t:=95) (e:=98) rfl rfl (by push_cast [iO,tN,Ent.d]) (by kernel_rfl) (by kernel_rfl) (show 0 < 2 by decide) (by kernel_rfl) (by kernel_rfl) rfl hmax (by decide)) fun v=>?_
       push_cast [iO,tN]
       refine has1 14 ?_
       ·refine hown rfl (ho_update (e:=98) rfl rfl rfl rfl) fun _=>?_
        push_cast [iO,tN]
        refine had fun Γ w h=>⟨?_,?_⟩
        ·rw [hhs] at h;unfold idxPut;rw [if_pos hg2];exact h
        ·(refine weak_fg ?_;push_cast [iO,tN])
   ·refine hlay rfl hstable_hidS ?_
    push_cast [iO,tN]
    refine has2 10 12 ?_ ?_
    ·refine hown rfl (ho_lookup (e:=98) (key:=.s (prefB y.pat)) rfl rfl rfl (by kernel_rfl) rfl (hz_of ⟨97,none,101,2,Bx,M,Γ0,w0⟩ (by kernel_rfl))) fun _=>?_
     push_cast [iO,tN]
     refine has1 12 ?_
     ·refine hlay rfl hstable_hidS ?_
      push_cast [iO,tN]
      refine has1 13 ?_
      ·refine hown rfl (ho_append (key:=.s (prefB y.pat)) (r:=y.d) (t:=95) (e:=98) rfl rfl (by push_cast [iO,tN,Ent.d]) (by kernel_rfl) (by kernel_rfl) (show 0 < 2 by decide) (by kernel_rfl) (by kernel_rfl) rfl hmax (by decide)) fun v=>?_
       push_cast [iO,tN]
       refine has1 14 ?_
       ·refine hown rfl (ho_update (e:=98) rfl rfl rfl rfl) fun _=>?_
        push_cast [iO,tN]
        refine had fun Γ w h=>⟨?_,?_⟩
        ·rw [hhs] at h;unfold idxPut;rw [if_pos hg2];exact h
        ·(refine weak_fg ?_;push_cast [iO,tN])
    ·refine hlay rfl hstable_hidS ?_
     push_cast [iO,tN]
     refine has1 10 ?_
     ·refine hown rfl (ho_lookup (e:=98) (key:=.s (prefB y.pat)) rfl rfl rfl (by kernel_rfl) rfl (hz_of ⟨97,none,101,2,Bx,M,Γ0,w0⟩ (by kernel_rfl))) fun _=>?_
      push_cast [iO,tN]
      refine has1 13 ?_
      ·refine hown rfl (ho_append (key:=.s (prefB y.pat)) (r:=y.d) (t:=95) (e:=98) rfl rfl (by push_cast [iO,tN,Ent.d]) (by kernel_rfl) (by kernel_rfl) (show 0 < 2 by decide) (by kernel_rfl) (by kernel_rfl) rfl hmax (by decide)) fun v=>?_
       push_cast [iO,tN]
       refine has1 14 ?_
       ·refine hown rfl (ho_update (e:=98) rfl rfl rfl rfl) fun _=>?_
        push_cast [iO,tN]
        refine had fun Γ w h=>⟨?_,?_⟩
        ·rw [hhs] at h;unfold idxPut;rw [if_pos hg2];exact h
        ·(refine weak_fg ?_;push_cast [iO,tN])
  ·refine hown rfl (ho_lookup (e:=98) (key:=.s (prefB y.pat)) rfl rfl rfl (by kernel_rfl) rfl (hz_of ⟨97,none,101,2,Bx,M,Γ0,w0⟩ (by kernel_rfl))) fun _=>?_
   push_cast [iO,tN]
   refine has2 3 11 ?_ ?_
   ·refine hown rfl (ho_load (n:=1) rfl (by kernel_rfl) (by kernel_rfl) rfl hsBox) fun _=>?_
    push_cast [iO,tN]
    refine has1 11 ?_
    ·refine hlay rfl hstable_hidS ?_
     push_cast [iO,tN]
     refine has1 12 ?_
     ·refine hlay rfl hstable_hidS ?_
      push_cast [iO,tN]
      refine has1 13 ?_
      ·refine hown rfl (ho_append (key:=.s (prefB y.pat)) (r:=y.d) (t:=95) (e:=98) rfl rfl (by push_cast [iO,tN,Ent.d]) (by kernel_rfl) (by kernel_rfl) (show 0 < 2 by decide) (by kernel_rfl) (by kernel_rfl) rfl hmax (by decide)) fun v=>?_
       push_cast [iO,tN]
       refine has1 14 ?_
       ·refine hown rfl (ho_update (e:=98) rfl rfl rfl rfl) fun _=>?_
        push_cast [iO,tN]
        refine had fun Γ w h=>⟨?_,?_⟩
        ·rw [hhs] at h;unfold idxPut;rw [if_pos hg2];exact h
        ·(refine weak_fg ?_;push_cast [iO,tN])
   ·refine hlay rfl hstable_hidS ?_
    push_cast [iO,tN]
    refine has2 3 12 ?_ ?_
    ·refine hown rfl (ho_load (n:=1) rfl (by kernel_rfl) (by kernel_rfl) rfl hsBox) fun _=>?_
     push_cast [iO,tN]
     refine has1 12 ?_
     ·refine hlay rfl hstable_hidS ?_
      push_cast [iO,tN]
      refine has1 13 ?_
      ·refine hown rfl (ho_append (key:=.s (prefB y.pat)) (r:=y.d) (t:=95) (e:=98) rfl rfl (by push_cast [iO,tN,Ent.d]) (by kernel_rfl) (by kernel_rfl) (show 0 < 2 by decide) (by kernel_rfl) (by kernel_rfl) rfl hmax (by decide)) fun v=>?_
       push_cast [iO,tN]
       refine has1 14 ?_
       ·refine hown rfl (ho_update (e:=98) rfl rfl rfl rfl) fun _=>?_
        push_cast [iO,tN]
        refine had fun Γ w h=>⟨?_,?_⟩
        ·rw [hhs] at h;unfold idxPut;rw [if_pos hg2];exact h
        ·(refine weak_fg ?_;push_cast [iO,tN])
    ·refine hlay rfl hstable_hidS ?_
     push_cast [iO,tN]
     refine has2 3 13 ?_ ?_
     ·refine hown rfl (ho_load (n:=1) rfl (by kernel_rfl) (by kernel_rfl) rfl hsBox) fun _=>?_
      push_cast [iO,tN]
      refine has1 13 ?_
      ·refine hown rfl (ho_append (key:=.s (prefB y.pat)) (r:=y.d) (t:=95) (e:=98) rfl rfl (by push_cast [iO,tN,Ent.d]) (by kernel_rfl) (by kernel_rfl) (show 0 < 2 by decide) (by kernel_rfl) (by kernel_rfl) rfl hmax (by decide)) fun v=>?_
       push_cast [iO,tN]
       refine has1 14 ?_
       ·refine hown rfl (ho_update (e:=98) rfl rfl rfl rfl) fun _=>?_
        push_cast [iO,tN]
        refine had fun Γ w h=>⟨?_,?_⟩
        ·rw [hhs] at h;unfold idxPut;rw [if_pos hg2];exact h
        ·(refine weak_fg ?_;push_cast [iO,tN])
     ·refine hown rfl (ho_append (key:=.s (prefB y.pat)) (r:=y.d) (t:=95) (e:=98) rfl rfl (by push_cast [iO,tN,Ent.d]) (by kernel_rfl) (by kernel_rfl) (show 0 < 2 by decide) (by kernel_rfl) (by kernel_rfl) rfl hmax (by decide)) fun v=>?_
      push_cast [iO,tN]
      refine has1 3 ?_
      ·refine hown rfl (ho_load (n:=1) rfl (by kernel_rfl) (by kernel_rfl) rfl hpBox) fun _=>?_
       push_cast [iO,tN]
       refine has1 14 ?_
       ·refine hown rfl (ho_update (e:=98) rfl rfl rfl rfl) fun _=>?_
        push_cast [iO,tN]
        refine had fun Γ w h=>⟨?_,?_⟩
        ·rw [hhs] at h;unfold idxPut;rw [if_pos hg2];exact h
        ·(refine weak_fg ?_;push_cast [iO,tN])
  ·refine hlay rfl hstable_hidS ?_
   push_cast [iO,tN]
   refine has3 3 10 12 ?_ ?_ ?_
   ·refine hown rfl (ho_load (n:=1) rfl (by kernel_rfl) (by kernel_rfl) rfl hsBox) fun _=>?_
    push_cast [iO,tN]
    refine has2 10 12 ?_ ?_
    ·refine hown rfl (ho_lookup (e:=98) (key:=.s (prefB y.pat)) rfl rfl rfl (by kernel_rfl) rfl (hz_of ⟨97,none,101,2,Bx,M,Γ0,w0⟩ (by kernel_rfl))) fun _=>?_
     push_cast [iO,tN]
     refine has1 12 ?_
     ·refine hlay rfl hstable_hidS ?_
      push_cast [iO,tN]
      refine has1 13 ?_
      ·refine hown rfl (ho_append (key:=.s (prefB y.pat)) (r:=y.d) (t:=95) (e:=98) rfl rfl (by push_cast [iO,tN,Ent.d]) (by kernel_rfl) (by kernel_rfl) (show 0 < 2 by decide) (by kernel_rfl) (by kernel_rfl) rfl hmax (by decide)) fun v=>?_
       push_cast [iO,tN]
       refine has1 14 ?_
       ·refine hown rfl (ho_update (e:=98) rfl rfl rfl rfl) fun _=>?_
        push_cast [iO,tN]
        refine had fun Γ w h=>⟨?_,?_⟩
        ·rw [hhs] at h;unfold idxPut;rw [if_pos hg2];exact h
        ·(refine weak_fg ?_;push_cast [iO,tN])
    ·refine hlay rfl hstable_hidS ?_
     push_cast [iO,tN]
     refine has1 10 ?_
     ·refine hown rfl (ho_lookup (e:=98) (key:=.s (prefB y.pat)) rfl rfl rfl (by kernel_rfl) rfl (hz_of ⟨97,none,101,2,Bx,M,Γ0,w0⟩ (by kernel_rfl))) fun _=>?_
      push_cast [iO,tN]
      refine has1 13 ?_
      ·refine hown rfl (ho_append (key:=.s (prefB y.pat)) (r:=y.d) (t:=95) (e:=98) rfl rfl (by push_cast [iO,tN,Ent.d]) (by kernel_rfl) (by kernel_rfl) (show 0 < 2 by decide) (by kernel_rfl) (by kernel_rfl) rfl hmax (by decide)) fun v=>?_
       push_cast [iO,tN]
       refine has1 14 ?_
       ·refine hown rfl (ho_update (e:=98) rfl rfl rfl rfl) fun _=>?_
        push_cast [iO,tN]
        refine had fun Γ w h=>⟨?_,?_⟩
        ·rw [hhs] at h;unfold idxPut;rw [if_pos hg2];exact h
        ·(refine weak_fg ?_;push_cast [iO,tN])
   ·refine hown rfl (ho_lookup (e:=98) (key:=.s (prefB y.pat)) rfl rfl rfl (by kernel_rfl) rfl (hz_of ⟨97,none,101,2,Bx,M,Γ0,w0⟩ (by kernel_rfl))) fun _=>?_
    push_cast [iO,tN]
    refine has2 3 12 ?_ ?_
    ·refine hown rfl (ho_load (n:=1) rfl (by kernel_rfl) (by kernel_rfl) rfl hsBox) fun _=>?_
     push_cast [iO,tN]
     refine has1 12 ?_
     ·refine hlay rfl hstable_hidS ?_
      push_cast [iO,tN]
      refine has1 13 ?_
      ·refine hown rfl (ho_append (key:=.s (prefB y.pat)) (r:=y.d) (t:=95) (e:=98) rfl rfl (by push_cast [iO,tN,Ent.d]) (by kernel_rfl) (by kernel_rfl) (show 0 < 2 by decide) (by kernel_rfl) (by kernel_rfl) rfl hmax (by decide)) fun v=>?_
       push_cast [iO,tN]
       refine has1 14 ?_
       ·refine hown rfl (ho_update (e:=98) rfl rfl rfl rfl) fun _=>?_
        push_cast [iO,tN]
        refine had fun Γ w h=>⟨?_,?_⟩
        ·rw [hhs] at h;unfold idxPut;rw [if_pos hg2];exact h
        ·(refine weak_fg ?_;push_cast [iO,tN])
    ·refine hlay rfl hstable_hidS ?_
     push_cast [iO,tN]
     refine has2 3 13 ?_ ?_
     ·refine hown rfl (ho_load (n:=1) rfl (by kernel_rfl) (by kernel_rfl) rfl hsBox) fun _=>?_
      push_cast [iO,tN]
      refine has1 13 ?_
      ·refine hown rfl (ho_append (key:=.s (prefB y.pat)) (r:=y.d) (t:=95) (e:=98) rfl rfl (by push_cast [iO,tN,Ent.d]) (by kernel_rfl) (by kernel_rfl) (show 0 < 2 by decide) (by kernel_rfl) (by kernel_rfl) rfl hmax (by decide)) fun v=>?_
       push_cast [iO,tN]
       refine has1 14 ?_
       ·refine hown rfl (ho_update (e:=98) rfl rfl rfl rfl) fun _=>?_
        push_cast [iO,tN]
        refine had fun Γ w h=>⟨?_,?_⟩
        ·rw [hhs] at h;unfold idxPut;rw [if_pos hg2];exact h
        ·(refine weak_fg ?_;push_cast [iO,tN])
     ·refine hown rfl (ho_append (key:=.s (prefB y.pat)) (r:=y.d) (t:=95) (e:=98) rfl rfl (by push_cast [iO,tN,Ent.d]) (by kernel_rfl) (by kernel_rfl) (show 0 < 2 by decide) (by kernel_rfl) (by kernel_rfl) rfl hmax (by decide)) fun v=>?_
      push_cast [iO,tN]
      refine has1 3 ?_
      ·refine hown rfl (ho_load (n:=1) rfl (by kernel_rfl) (by kernel_rfl) rfl hpBox) fun _=>?_
       push_cast [iO,tN]
       refine has1 14 ?_
       ·refine hown rfl (ho_update (e:=98) rfl rfl rfl rfl) fun _=>?_
        push_cast [iO,tN]
        refine had fun Γ w h=>⟨?_,?_⟩
        ·rw [hhs] at h;unfold idxPut;rw [if_pos hg2];exact h
        ·(refine weak_fg ?_;push_cast [iO,tN])
   ·refine hlay rfl hstable_hidS ?_
    push_cast [iO,tN]
    refine has2 3 10 ?_ ?_
    ·refine hown rfl (ho_load (n:=1) rfl (by kernel_rfl) (by kernel_rfl) rfl hsBox) fun _=>?_
     push_cast [iO,tN]
     refine has1 10 ?_
     ·refine hown rfl (ho_lookup (e:=98) (key:=.s (prefB y.pat)) rfl rfl rfl (by kernel_rfl) rfl (hz_of ⟨97,none,101,2,Bx,M,Γ0,w0⟩ (by kernel_rfl))) fun _=>?_
      push_cast [iO,tN]
      refine has1 13 ?_
      ·refine hown rfl (ho_append (key:=.s (prefB y.pat)) (r:=y.d) (t:=95) (e:=98) rfl rfl (by push_cast [iO,tN,Ent.d]) (by kernel_rfl) (by kernel_rfl) (show 0 < 2 by decide) (by kernel_rfl) (by kernel_rfl) rfl hmax (by decide)) fun v=>?_
       push_cast [iO,tN]
       refine has1 14 ?_
       ·refine hown rfl (ho_update (e:=98) rfl rfl rfl rfl) fun _=>?_
        push_cast [iO,tN]
        refine had fun Γ w h=>⟨?_,?_⟩
        ·rw [hhs] at h;unfold idxPut;rw [if_pos hg2];exact h
        ·(refine weak_fg ?_;push_cast [iO,tN])
    ·refine hown rfl (ho_lookup (e:=98) (key:=.s (prefB y.pat)) rfl rfl rfl (by kernel_rfl) rfl (hz_of ⟨97,none,101,2,Bx,M,Γ0,w0⟩ (by kernel_rfl))) fun _=>?_
     push_cast [iO,tN]
     refine has2 3 13 ?_ ?_
     ·refine hown rfl (ho_load (n:=1) rfl (by kernel_rfl) (by kernel_rfl) rfl hsBox) fun _=>?_
      push_cast [iO,tN]
      refine has1 13 ?_
      ·refine hown rfl (ho_append (key:=.s (prefB y.pat)) (r:=y.d) (t:=95) (e:=98) rfl rfl (by push_cast [iO,tN,Ent.d]) (by kernel_rfl) (by kernel_rfl) (show 0 < 2 by decide) (by kernel_rfl) (by kernel_rfl) rfl hmax (by decide)) fun v=>?_
       push_cast [iO,tN]
       refine has1 14 ?_
       ·refine hown rfl (ho_update (e:=98) rfl rfl rfl rfl) fun _=>?_
        push_cast [iO,tN]
        refine had fun Γ w h=>⟨?_,?_⟩
        ·rw [hhs] at h;unfold idxPut;rw [if_pos hg2];exact h
        ·(refine weak_fg ?_;push_cast [iO,tN])
     ·refine hown rfl (ho_append (key:=.s (prefB y.pat)) (r:=y.d) (t:=95) (e:=98) rfl rfl (by push_cast [iO,tN,Ent.d]) (by kernel_rfl) (by kernel_rfl) (show 0 < 2 by decide) (by kernel_rfl) (by kernel_rfl) rfl hmax (by decide)) fun v=>?_
      push_cast [iO,tN]
      refine has1 3 ?_
      ·refine hown rfl (ho_load (n:=1) rfl (by kernel_rfl) (by kernel_rfl) rfl hpBox) fun _=>?_
       push_cast [iO,tN]
       refine has1 14 ?_
       ·refine hown rfl (ho_update (e:=98) rfl rfl rfl rfl) fun _=>?_
        push_cast [iO,tN]
        refine had fun Γ w h=>⟨?_,?_⟩
        ·rw [hhs] at h;unfold idxPut;rw [if_pos hg2];exact h
        ·(refine weak_fg ?_;push_cast [iO,tN])
 ·refine hlay rfl hstable_hidS ?_
  push_cast [iO,tN]
  refine has3 3 8 12 ?_ ?_ ?_
  ·refine hown rfl (ho_load (n:=1) rfl (by kernel_rfl) (by kernel_rfl) rfl hsBox) fun _=>?_
   push_cast [iO,tN]
   refine has2 8 12 ?_ ?_
   ·refine hown rfl (ho_load (n:=1) rfl (by kernel_rfl) (by kernel_rfl) rfl hsBox) fun _=>?_
    push_cast [iO,tN]
    refine has2 10 12 ?_ ?_
    ·refine hown rfl (ho_lookup (e:=98) (key:=.s (prefB y.pat)) rfl rfl rfl (by kernel_rfl) rfl (hz_of ⟨97,none,101,2,Bx,M,Γ0,w0⟩ (by kernel_rfl))) fun _=>?_
     push_cast [iO,tN]
     refine has1 12 ?_
     ·refine hlay rfl hstable_hidS ?_
      push_cast [iO,tN]
      refine has1 13 ?_
      ·refine hown rfl (ho_append (key:=.s (prefB y.pat)) (r:=y.d) (t:=95) (e:=98) rfl rfl (by push_cast [iO,tN,Ent.d]) (by kernel_rfl) (by kernel_rfl) (show 0 < 2 by decide) (by kernel_rfl) (by kernel_rfl) rfl hmax (by decide)) fun v=>?_
       push_cast [iO,tN]
       refine has1 14 ?_
       ·refine hown rfl (ho_update (e:=98) rfl rfl rfl rfl) fun _=>?_
        push_cast [iO,tN]
        refine had fun Γ w h=>⟨?_,?_⟩
        ·rw [hhs] at h;unfold idxPut;rw [if_pos hg2];exact h
        ·(refine weak_fg ?_;push_cast [iO,tN])
    ·refine hlay rfl hstable_hidS ?_
     push_cast [iO,tN]
     refine has1 10 ?_
     ·refine hown rfl (ho_lookup (e:=98) (key:=.s (prefB y.pat)) rfl rfl rfl (by kernel_rfl) rfl (hz_of ⟨97,none,101,2,Bx,M,Γ0,w0⟩ (by kernel_rfl))) fun _=>?_
      push_cast [iO,tN]
      refine has1 13 ?_
      ·refine hown rfl (ho_append (key:=.s (prefB y.pat)) (r:=y.d) (t:=95) (e:=98) rfl rfl (by push_cast [iO,tN,Ent.d]) (by kernel_rfl) (by kernel_rfl) (show 0 < 2 by decide) (by kernel_rfl) (by kernel_rfl) rfl hmax (by decide)) fun v=>?_
       push_cast [iO,tN]
       refine has1 14 ?_
       ·refine hown rfl (ho_update (e:=98) rfl rfl rfl rfl) fun _=>?_
        push_cast [iO,tN]
        refine had fun Γ w h=>⟨?_,?_⟩
        ·rw [hhs] at h;unfold idxPut;rw [if_pos hg2];exact h
        ·(refine weak_fg ?_;push_cast [iO,tN])
   ·refine hlay rfl hstable_hidS ?_
    push_cast [iO,tN]
    refine has1 8 ?_
    ·refine hown rfl (ho_load (n:=1) rfl (by kernel_rfl) (by kernel_rfl) rfl hsBox) fun _=>?_
     push_cast [iO,tN]
     refine has1 10 ?_
     ·refine hown rfl (ho_lookup (e:=98) (key:=.s (prefB y.pat)) rfl rfl rfl (by kernel_rfl) rfl (hz_of ⟨97,none,101,2,Bx,M,Γ0,w0⟩ (by kernel_rfl))) fun _=>?_
      push_cast [iO,tN]
      refine has1 13 ?_
      ·refine hown rfl (ho_append (key:=.s (prefB y.pat)) (r:=y.d) (t:=95) (e:=98) rfl rfl (by push_cast [iO,tN,Ent.d]) (by kernel_rfl) (by kernel_rfl) (show 0 < 2 by decide) (by kernel_rfl) (by kernel_rfl) rfl hmax (by decide)) fun v=>?_
       push_cast [iO,tN]
       refine has1 14 ?_
       ·refine hown rfl (ho_update (e:=98) rfl rfl rfl rfl) fun _=>?_
        push_cast [iO,tN]
        refine had fun Γ w h=>⟨?_,?_⟩
        ·rw [hhs] at h;unfold idxPut;rw [if_pos hg2];exact h
        ·(refine weak_fg ?_;push_cast [iO,tN])
  ·refine hown rfl (ho_load (n:=1) rfl (by kernel_rfl) (by kernel_rfl) rfl hsBox) fun _=>?_
   push_cast [iO,tN]
   refine has3 3 10 12 ?_ ?_ ?_
   ·refine hown rfl (ho_load (n:=1) rfl (by kernel_rfl) (by kernel_rfl) rfl hsBox) fun _=>?_
    push_cast [iO,tN]
    refine has2 10 12 ?_ ?_
    ·refine hown rfl (ho_lookup (e:=98) (key:=.s (prefB y.pat)) rfl rfl rfl (by kernel_rfl) rfl (hz_of ⟨97,none,101,2,Bx,M,Γ0,w0⟩ (by kernel_rfl))) fun _=>?_
     push_cast [iO,tN]
     refine has1 12 ?_
     ·refine hlay rfl hstable_hidS ?_
      push_cast [iO,tN]
      refine has1 13 ?_
      ·refine hown rfl (ho_append (key:=.s (prefB y.pat)) (r:=y.d) (t:=95) (e:=98) rfl rfl (by push_cast [iO,tN,Ent.d]) (by kernel_rfl) (by kernel_rfl) (show 0 < 2 by decide) (by kernel_rfl) (by kernel_rfl) rfl hmax (by decide)) fun v=>?_
       push_cast [iO,tN]
       refine has1 14 ?_
       ·refine hown rfl (ho_update (e:=98) rfl rfl rfl rfl) fun _=>?_
        push_cast [iO,tN]
        refine had fun Γ w h=>⟨?_,?_⟩
        ·rw [hhs] at h;unfold idxPut;rw [if_pos hg2];exact h
        ·(refine weak_fg ?_;push_cast [iO,tN])
    ·refine hlay rfl hstable_hidS ?_
     push_cast [iO,tN]
     refine has1 10 ?_
     ·refine hown rfl (ho_lookup (e:=98) (key:=.s (prefB y.pat)) rfl rfl rfl (by kernel_rfl) rfl (hz_of ⟨97,none,101,2,Bx,M,Γ0,w0⟩ (by kernel_rfl))) fun _=>?_
      push_cast [iO,tN]
      refine has1 13 ?_
      ·refine hown rfl (ho_append (key:=.s (prefB y.pat)) (r:=y.d) (t:=95) (e:=98) rfl rfl (by push_cast [iO,tN,Ent.d]) (by kernel_rfl) (by kernel_rfl) (show 0 < 2 by decide) (by kernel_rfl) (by kernel_rfl) rfl hmax (by decide)) fun v=>?_
       push_cast [iO,tN]
       refine has1 14 ?_
       ·refine hown rfl (ho_update (e:=98) rfl rfl rfl rfl) fun _=>?_
        push_cast [iO,tN]
        refine had fun Γ w h=>⟨?_,?_⟩
        ·rw [hhs] at h;unfold idxPut;rw [if_pos hg2];exact h
        ·(refine weak_fg ?_;push_cast [iO,tN])
   ·refine hown rfl (ho_lookup (e:=98) (key:=.s (prefB y.pat)) rfl rfl rfl (by kernel_rfl) rfl (hz_of ⟨97,none,101,2,Bx,M,Γ0,w0⟩ (by kernel_rfl))) fun _=>?_
    push_cast [iO,tN]
    refine has2 3 12 ?_ ?_
    ·refine hown rfl (ho_load (n:=1) rfl (by kernel_rfl) (by kernel_rfl) rfl hsBox) fun _=>?_
     push_cast [iO,tN]
     refine has1 12 ?_
     ·refine hlay rfl hstable_hidS ?_
      push_cast [iO,tN]
      refine has1 13 ?_
      ·refine hown rfl (ho_append (key:=.s (prefB y.pat)) (r:=y.d) (t:=95) (e:=98) rfl rfl (by push_cast [iO,tN,Ent.d]) (by kernel_rfl) (by kernel_rfl) (show 0 < 2 by decide) (by kernel_rfl) (by kernel_rfl) rfl hmax (by decide)) fun v=>?_
       push_cast [iO,tN]
       refine has1 14 ?_
       ·refine hown rfl (ho_update (e:=98) rfl rfl rfl rfl) fun _=>?_
        push_cast [iO,tN]
        refine had fun Γ w h=>⟨?_,?_⟩
        ·rw [hhs] at h;unfold idxPut;rw [if_pos hg2];exact h
        ·(refine weak_fg ?_;push_cast [iO,tN])
    ·refine hlay rfl hstable_hidS ?_
     push_cast [iO,tN]
     refine has2 3 13 ?_ ?_
     ·refine hown rfl (ho_load (n:=1) rfl (by kernel_rfl) (by kernel_rfl) rfl hsBox) fun _=>?_
      push_cast [iO,tN]
      refine has1 13 ?_
      ·refine hown rfl (ho_append (key:=.s (prefB y.pat)) (r:=y.d) (t:=95) (e:=98) rfl rfl (by push_cast [iO,tN,Ent.d]) (by kernel_rfl) (by kernel_rfl) (show 0 < 2 by decide) (by kernel_rfl) (by kernel_rfl) rfl hmax (by decide)) fun v=>?_
       push_cast [iO,tN]
       refine has1 14 ?_
       ·refine hown rfl (ho_update (e:=98) rfl rfl rfl rfl) fun _=>?_
        push_cast [iO,tN]
        refine had fun Γ w h=>⟨?_,?_⟩
        ·rw [hhs] at h;unfold idxPut;rw [if_pos hg2];exact h
        ·(refine weak_fg ?_;push_cast [iO,tN])
     ·refine hown rfl (ho_append (key:=.s (prefB y.pat)) (r:=y.d) (t:=95) (e:=98) rfl rfl (by push_cast [iO,tN,Ent.d]) (by kernel_rfl) (by kernel_rfl) (show 0 < 2 by decide) (by kernel_rfl) (by kernel_rfl) rfl hmax (by decide)) fun v=>?_
      push_cast [iO,tN]
      refine has1 3 ?_
      ·refine hown rfl (ho_load (n:=1) rfl (by kernel_rfl) (by kernel_rfl) rfl hpBox) fun _=>?_
       push_cast [iO,tN]
       refine has1 14 ?_
       ·refine hown rfl (ho_update (e:=98) rfl rfl rfl rfl) fun _=>?_
        push_cast [iO,tN]
        refine had fun Γ w h=>⟨?_,?_⟩
        ·rw [hhs] at h;unfold idxPut;rw [if_pos hg2];exact h
        ·(refine weak_fg ?_;push_cast [iO,tN])
   ·refine hlay rfl hstable_hidS ?_
    push_cast [iO,tN]
    refine has2 3 10 ?_ ?_
    ·refine hown rfl (ho_load (n:=1) rfl (by kernel_rfl) (by kernel_rfl) rfl hsBox) fun _=>?_
     push_cast [iO,tN]
     refine has1 10 ?_
     ·refine hown rfl (ho_lookup (e:=98) (key:=.s (prefB y.pat)) rfl rfl rfl (by kernel_rfl) rfl (hz_of ⟨97,none,101,2,Bx,M,Γ0,w0⟩ (by kernel_rfl))) fun _=>?_
      push_cast [iO,tN]
      refine has1 13 ?_
      ·refine hown rfl (ho_append (key:=.s (prefB y.pat)) (r:=y.d) (t:=95) (e:=98) rfl rfl (by push_cast [iO,tN,Ent.d]) (by kernel_rfl) (by kernel_rfl) (show 0 < 2 by decide) (by kernel_rfl) (by kernel_rfl) rfl hmax (by decide)) fun v=>?_
       push_cast [iO,tN]
       refine has1 14 ?_
       ·refine hown rfl (ho_update (e:=98) rfl rfl rfl rfl) fun _=>?_
        push_cast [iO,tN]
        refine had fun Γ w h=>⟨?_,?_⟩
        ·rw [hhs] at h;unfold idxPut;rw [if_pos hg2];exact h
        ·(refine weak_fg ?_;push_cast [iO,tN])
    ·refine hown rfl (ho_lookup (e:=98) (key:=.s (prefB y.pat)) rfl rfl rfl (by kernel_rfl) rfl (hz_of ⟨97,none,101,2,Bx,M,Γ0,w0⟩ (by kernel_rfl))) fun _=>?_
     push_cast [iO,tN]
     refine has2 3 13 ?_ ?_
     ·refine hown rfl (ho_load (n:=1) rfl (by kernel_rfl) (by kernel_rfl) rfl hsBox) fun _=>?_
      push_cast [iO,tN]
      refine has1 13 ?_
      ·refine hown rfl (ho_append (key:=.s (prefB y.pat)) (r:=y.d) (t:=95) (e:=98) rfl rfl (by push_cast [iO,tN,Ent.d]) (by kernel_rfl) (by kernel_rfl) (show 0 < 2 by decide) (by kernel_rfl) (by kernel_rfl) rfl hmax (by decide)) fun v=>?_
       push_cast [iO,tN]
       refine has1 14 ?_
       ·refine hown rfl (ho_update (e:=98) rfl rfl rfl rfl) fun _=>?_
        push_cast [iO,tN]
        refine had fun Γ w h=>⟨?_,?_⟩
        ·rw [hhs] at h;unfold idxPut;rw [if_pos hg2];exact h
        ·(refine weak_fg ?_;push_cast [iO,tN])
     ·refine hown rfl (ho_append (key:=.s (prefB y.pat)) (r:=y.d) (t:=95) (e:=98) rfl rfl (by push_cast [iO,tN,Ent.d]) (by kernel_rfl) (by kernel_rfl) (show 0 < 2 by decide) (by kernel_rfl) (by kernel_rfl) rfl hmax (by decide)) fun v=>?_
      push_cast [iO,tN]
      refine has1 3 ?_
      ·refine hown rfl (ho_load (n:=1) rfl (by kernel_rfl) (by kernel_rfl) rfl hpBox) fun _=>?_
       push_cast [iO,tN]
       refine has1 14 ?_
       ·refine hown rfl (ho_update (e:=98) rfl rfl rfl rfl) fun _=>?_
        push_cast [iO,tN]
        refine had fun Γ w h=>⟨?_,?_⟩
        ·rw [hhs] at h;unfold idxPut;rw [if_pos hg2];exact h
        ·(refine weak_fg ?_;push_cast [iO,tN])
  ·refine hlay rfl hstable_hidS ?_
   push_cast [iO,tN]
   refine has2 3 8 ?_ ?_
   ·refine hown rfl (ho_load (n:=1) rfl (by kernel_rfl) (by kernel_rfl) rfl hsBox) fun _=>?_
    push_cast [iO,tN]
    refine has1 8 ?_
    ·refine hown rfl (ho_load (n:=1) rfl (by kernel_rfl) (by kernel_rfl) rfl hsBox) fun _=>?_
     push_cast [iO,tN]
     refine has1 10 ?_
     ·refine hown rfl (ho_lookup (e:=98) (key:=.s (prefB y.pat)) rfl rfl rfl (by kernel_rfl) rfl (hz_of ⟨97,none,101,2,Bx,M,Γ0,w0⟩ (by kernel_rfl))) fun _=>?_
      push_cast [iO,tN]
      refine has1 13 ?_
      ·refine hown rfl (ho_append (key:=.s (prefB y.pat)) (r:=y.d) (t:=95) (e:=98) rfl rfl (by push_cast [iO,tN,Ent.d]) (by kernel_rfl) (by kernel_rfl) (show 0 < 2 by decide) (by kernel_rfl) (by kernel_rfl) rfl hmax (by decide)) fun v=>?_
       push_cast [iO,tN]
       refine has1 14 ?_
       ·refine hown rfl (ho_update (e:=98) rfl rfl rfl rfl) fun _=>?_
        push_cast [iO,tN]
        refine had fun Γ w h=>⟨?_,?_⟩
        ·rw [hhs] at h;unfold idxPut;rw [if_pos hg2];exact h
        ·(refine weak_fg ?_;push_cast [iO,tN])
   ·refine hown rfl (ho_load (n:=1) rfl (by kernel_rfl) (by kernel_rfl) rfl hsBox) fun _=>?_
    push_cast [iO,tN]
    refine has2 3 10 ?_ ?_
    ·refine hown rfl (ho_load (n:=1) rfl (by kernel_rfl) (by kernel_rfl) rfl hsBox) fun _=>?_
     push_cast [iO,tN]
     refine has1 10 ?_
     ·refine hown rfl (ho_lookup (e:=98) (key:=.s (prefB y.pat)) rfl rfl rfl (by kernel_rfl) rfl (hz_of ⟨97,none,101,2,Bx,M,Γ0,w0⟩ (by kernel_rfl))) fun _=>?_
      push_cast [iO,tN]
      refine has1 13 ?_
      ·refine hown rfl (ho_append (key:=.s (prefB y.pat)) (r:=y.d) (t:=95) (e:=98) rfl rfl (by push_cast [iO,tN,Ent.d]) (by kernel_rfl) (by kernel_rfl) (show 0 < 2 by decide) (by kernel_rfl) (by kernel_rfl) rfl hmax (by decide)) fun v=>?_
       push_cast [iO,tN]
       refine has1 14 ?_
       ·refine hown rfl (ho_update (e:=98) rfl rfl rfl rfl) fun _=>?_
        push_cast [iO,tN]
        refine had fun Γ w h=>⟨?_,?_⟩
        ·rw [hhs] at h;unfold idxPut;rw [if_pos hg2];exact h
        ·(refine weak_fg ?_;push_cast [iO,tN])
    ·refine hown rfl (ho_lookup (e:=98) (key:=.s (prefB y.pat)) rfl rfl rfl (by kernel_rfl) rfl (hz_of ⟨97,none,101,2,Bx,M,Γ0,w0⟩ (by kernel_rfl))) fun _=>?_
     push_cast [iO,tN]
     refine has2 3 13 ?_ ?_
     ·refine hown rfl (ho_load (n:=1) rfl (by kernel_rfl) (by kernel_rfl) rfl hsBox) fun _=>?_
      push_cast [iO,tN]
      refine has1 13 ?_
      ·refine hown rfl (ho_append (key:=.s (prefB y.pat)) (r:=y.d) (t:=95) (e:=98) rfl rfl (by push_cast [iO,tN,Ent.d]) (by kernel_rfl) (by kernel_rfl) (show 0 < 2 by decide) (by kernel_rfl) (by kernel_rfl) rfl hmax (by decide)) fun v=>?_
       push_cast [iO,tN]
       refine has1 14 ?_
       ·refine hown rfl (ho_update (e:=98) rfl rfl rfl rfl) fun _=>?_
        push_cast [iO,tN]
        refine had fun Γ w h=>⟨?_,?_⟩
        ·rw [hhs] at h;unfold idxPut;rw [if_pos hg2];exact h
        ·(refine weak_fg ?_;push_cast [iO,tN])
     ·refine hown rfl (ho_append (key:=.s (prefB y.pat)) (r:=y.d) (t:=95) (e:=98) rfl rfl (by push_cast [iO,tN,Ent.d]) (by kernel_rfl) (by kernel_rfl) (show 0 < 2 by decide) (by kernel_rfl) (by kernel_rfl) rfl hmax (by decide)) fun v=>?_
      push_cast [iO,tN]
      refine has1 3 ?_
      ·refine hown rfl (ho_load (n:=1) rfl (by kernel_rfl) (by kernel_rfl) rfl hpBox) fun _=>?_
       push_cast [iO,tN]
       refine has1 14 ?_
       ·refine hown rfl (ho_update (e:=98) rfl rfl rfl rfl) fun _=>?_
        push_cast [iO,tN]
        refine had fun Γ w h=>⟨?_,?_⟩
        ·rw [hhs] at h;unfold idxPut;rw [if_pos hg2];exact h
        ·(refine weak_fg ?_;push_cast [iO,tN])
end Go.Proofs.YtmjffgienmcabaaGreatDoor
