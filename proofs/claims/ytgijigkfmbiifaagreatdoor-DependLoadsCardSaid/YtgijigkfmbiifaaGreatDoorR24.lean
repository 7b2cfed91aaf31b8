/- What the program computes, and the plain laws of it, part 24. -/
import Derived.Lib.AppendZerosOnto
import Derived.Lib.Join
import Derived.Test.YtgijigkfmbiifaaGreatDoorR23
namespace Go.Proofs.YtgijigkfmbiifaaGreatDoor
attribute [local irreducible] PL QL PWPr PCalls Weak RetK Kontr PA PCallsG
open Go.RowKit
open IntWalk renaming iteOmega → iO, toNatUp → tN
set_option linter.unusedVariables false
set_option linter.unusedSimpArgs false
set_option maxRecDepth 20000
def loE (k:Ker):List Ob:=[.box 35 [.ptr 1 0],kerB 2 3 k,kerL k,kerV k]
attribute [push_cast] loE
theorem kload1E_pure (k:Ker) (s:ByteArray) (hl:k.loaded.length≤1000000) :
  PCalls Tryz.prog 65 [.c (.v (.string s)),.c (.ptr 0 0)] (loE k) fun r os=>r = .c (.v (.bool (!inM s k.loaded)))∧os=loE k:=by
 have hc:=containsD_pure k.loaded s (by omega)
 have htk:=List.take_of_length_le (l:=k.loaded.map strD) (i:=k.loaded.length) (by simp)
 refine pcalls_of Tryz.func65 rfl (by simp [Tryz.ntmps65]) ?_
 rw [Tryz.ntmps65,Tryz.results65]
 push_cast [iO,tN]
 repeat' (first|((refine pl_call2 true [] rfl rfl (by kernel_rfl) (hc) ?_ ?_ ?_;push_cast [iO,tN,htk];(intro _ r os;rintro ⟨rfl,rfl⟩;push_cast [iO,tN,htk]);rintro r os ⟨rfl,rfl⟩;refine pl_of_pops ?_;push_cast [iO,tN,htk]))|((first|refine pG ?_|refine pQ ?_|refine pU ?_);push_cast [iO,tN,htk])|(refine pif (fun h=>?_) (fun h=>?_)<;>first|exact pN h|push_cast [iO,tN,htk]))
 (refine retK_of [0,1,2,3] ?_;push_cast [iO,tN])
def kerE (mods:List Mod) (l:List ByteArray):Ker:=⟨[],mods,l,[],0⟩
attribute [push_cast] kerE
structure Loads (M:List Mod) (l:List ByteArray) (n:ByteArray) (m:Mod):Prop where
 mo:modOf M n=some m
 new:inM n l=false
 fails:m.fails=false
 needs:(m.needs.any fun s=>!inM s l)=false
 len:m.needs.length≤1000000
set_option maxHeartbeats 8000000 in
theorem kloadE_pure (M:List Mod) (l:List ByteArray) (n:ByteArray) (m:Mod) (h:Loads M l n m) (hM:M.length≤1000000) (hl:l.length≤1000000) :
  PCallsG 1 Tryz.prog 40 [.c (.ptr 0 0),.c (.v (.string n))] (kerO (kerE M l)) fun r os=>r = .c (.v (.int .i64 0))∧os=kerO (kerE M (l++[n])):=by
 have hm:=kmod_pure (kerE M l) n hM
 have htk:=List.take_of_length_le (l:=l.map strD) (i:=l.length) (by simp)
 obtain ⟨hmo,h1,h2,h3,hnl⟩:=h
 rw [show (kerE M l).mods=M from rfl,hmo] at hm
 simp only [Option.getD_some,Option.isSome_some] at hm
 have hc:=containsD_pure l n (by omega)
 rw [h1] at hc
 have hcf:=containsFuncS_pure m.needs (by omega) 65 [0] (loE (kerE M l)) (fun s=>!inM s l) ⟨by kernel_rfl,fun x _=>kload1E_pure (kerE M l) x hl⟩
 rw [h3] at hcf
 refine pcalls_ofG 1 (by simp [kerO]) Tryz.func40 rfl (by simp [Tryz.ntmps40]) (by rintro r os ⟨rfl,rfl⟩;simp [kerO]) ?_
 rw [Tryz.ntmps40,Tryz.results40]
 push_cast [iO,tN]
 have cB:CutB 9 [47,48,49]:=trivial
 repeat' (first|((refine plc [0,1,2] (hm) ?_ ?_;push_cast [iO,tN,htk,h2];rintro r os ⟨rfl,rfl⟩;push_cast [iO,tN,htk,h2]))|((refine pl_call2 true [] rfl rfl (by kernel_rfl) (hc) ?_ ?_ ?_;push_cast [iO,tN,htk,h2];(intro _ r os;rintro ⟨rfl,rfl⟩;push_cast [iO,tN,htk,h2]);rintro r os ⟨rfl,rfl⟩;refine pl_of_pops ?_;push_cast [iO,tN,htk,h2]))|((refine plc [3,0,1,2] (hcf) ?_ ?_;push_cast [iO,tN,htk,h2];rintro r os ⟨rfl,rfl⟩;push_cast [iO,tN,htk,h2]))|((refine pwp_cut 9 [47,48,49] ?_;apply pwp_drawn_to;(focus kernel_rfl);(focus (simp only [List.length_cons,List.length_nil,Nat.reduceAdd];(repeat' first|((first|refine pah 2 ?_|refine pah 3 ?_|refine pah 5 ?_|refine pah 8 ?_|refine pah 9 ?_);push_cast [iO,tN,htk,h2])|(refine pad ?_;first|with_reducible exact weak_cutS 9 [47,48,49] _|(refine weak_fg ?_;push_cast [iO,tN,htk,h2]))|((first|refine pas [0] ?_|refine pas [1] ?_|refine pas [4] ?_|refine pas [6] ?_|refine pas [7] ?_|refine pas [10] ?_);push_cast [iO,tN,htk,h2])|((first|refine pas [0,1] ?_|refine pas [0,4] ?_|refine pas [0,6] ?_|refine pas [0,7] ?_|refine pas [1,6] ?_|refine pas [4,6] ?_);push_cast [iO,tN,htk,h2];refine ⟨?_,?_⟩)|((first|refine pas [0,1,6] ?_|refine pas [0,4,6] ?_);push_cast [iO,tN,htk,h2];refine ⟨?_,?_,?_⟩));done));push_cast [iO,tN,htk,h2]))|((first|refine pC ?_|refine pQC ?_|refine pU ?_);push_cast [iO,tN,htk,h2])|(refine pif (fun h=>?_) (fun h=>?_)<;>first|exact pN h|push_cast [iO,tN,htk,h2]))
 (apply pwp_loop3 (α:=Nat) 9 [47,48,49] (fun i=>[(49,.c (.v (.int .i64 0)))]) (fun i=>[]) (fun i=>i=0) (fun i=>0) (0);(focus ((try push_cast [iO,tN]);rfl));(focus exact rfl);(focus ((refine weak_fg ?_;try push_cast [iO,tN]);(try (rfl)))))
 intro i hi
 push_cast [iO,tN]
 repeat' (first|((first|refine pC ?_|refine pQC ?_|refine pU ?_);push_cast [iO,tN])|(refine pif (fun h=>?_) (fun h=>?_)<;>first|exact pN h|push_cast [iO,tN]))
 (refine retK_of [0,1,2] ?_;push_cast [iO,tN])
def ldO (n:ByteArray):Opr:=⟨8,⟨#[]⟩,⟨0,0,⟨#[]⟩,⟨#[]⟩,⟨#[]⟩,⟨#[]⟩,⟨#[]⟩,0,0,[]⟩,⟨#[]⟩,n⟩
attribute [push_cast] ldO
set_option maxHeartbeats 8000000 in
theorem kdoE_pure (M:List Mod) (l:List ByteArray) (n:ByteArray) (m:Mod) (h:Loads M l n m) (hM:M.length≤1000000) (hl:l.length≤1000000) :
  PCallsG 1 Tryz.prog 10 [.c (.ptr 0 0),.agg (ldO n).e] (kerO (kerE M l)) fun r os=>r = .two (.c (.v (.int .i64 0))) (.c (.v (.int .i64 0)))∧os=kerO (kerE M (l++[n])):=by
 have hlod:=kloadE_pure M l n m h hM hl
 refine pcalls_ofG 1 (by simp [kerO]) Tryz.func10 rfl (by simp [Tryz.ntmps10]) (by rintro r os ⟨rfl,rfl⟩;simp [kerO]) ?_
 rw [Tryz.ntmps10,Tryz.results10]
 push_cast [iO,tN]
 have cB:CutB 9 [10,11,18,24]:=trivial
 repeat' (first |  ((refine plcG 1 [0,1,2] (hlod) ?_ ?_;push_cast [iO,tN];rintro r os ⟨rfl,rfl⟩;push_cast [iO,tN]))  | ((first|refine pC ?_|refine pQC ?_|refine pU ?_);push_cast [iO,tN])|(refine pif (fun h=>?_) (fun h=>?_)<;>first|exact pN h|push_cast [iO,tN]))
 (refine retK_of [0,1,2] ?_;push_cast [iO,tN])
end Go.Proofs.YtgijigkfmbiifaaGreatDoor
namespace Go.Proofs.YtgijigkfmbiifaaGreatDoor
open Go.RowKit
open IntWalk renaming iteOmega → iO, toNatUp → tN
set_option linter.unusedVariables false
set_option linter.unusedSimpArgs false
structure Ord (M:List Mod) (P:ByteArray → Prop):Prop where
 mod:∀ x,P x → ∃ m,modOf M x=some m∧m.fails=false∧m.needs.length≤1000000
 needs:∀ x y,P x → y ∈ needsOf M x → P y
 acyc:∀ x,P x → ¬ Reach M x x
theorem hard_less {M:List Mod} {x y:ByteArray} (h:¬ Reach M x x) (hy:y ∈ needsOf M x):(hardL M y).length < (hardL M x).length:=by
 obtain ⟨a1,m1,_⟩:=hard_spec M x
 obtain ⟨a2,m2,_⟩:=hard_spec M y
 refine nodup_len (x :: hardL M y) (hardL M x) (List.nodup_cons.2 ⟨fun hx=>?_,asc_nodup a2⟩) fun z hz=>?_
 ·rcases (m2 x).1 hx with rfl|hr
  ·exact h (.one hy)
  ·exact h (Reach.trans (.one hy) hr)
 ·rcases List.mem_cons.1 hz with rfl|hz
  ·exact (m1 _).2 (.inl rfl)
  ·rcases (m2 z).1 hz with rfl|hr
   ·exact (m1 _).2 (.inr (.one hy))
   ·exact (m1 _).2 (.inr (Reach.trans (.one hy) hr))
theorem exists_least (f:ByteArray → Nat):∀ (n:Nat) (R:List ByteArray),(∃ s ∈ R,f s≤n) → ∃ s ∈ R,∀ y ∈ R,f s≤f y
 | 0,R,⟨s,hs,h⟩=>⟨s,hs,fun y _=>by omega⟩
 | n+1,R,⟨s,hs,h⟩=>by
  by_cases hx:∃ s ∈ R,f s≤n
  ·exact exists_least f n R hx
  ·exact ⟨s,hs,fun y hy=>by
    have:¬ f y≤n:=fun hn=>hx ⟨y,hy,hn⟩
    omega⟩
theorem may_of {M:List Mod} {T:List ByteArray} {s:ByteArray} {m:Mod} (h:modOf M s=some m):mayV M T s = !(m.needs.any fun x=>!inM x T):=by
 unfold mayV
 rw [h]
theorem choose_may {M:List Mod} {T R:List ByteArray} {b:ByteArray} (h:chooseM M T R=some b):mayV M T b=true:=by
 unfold chooseM at h
 split at h
 ·rename_i b' h1
  cases h
  have:=List.find?_some h1
  unfold shouldV at this
  exact (Bool.and_eq_true_iff.1 this).1
 ·exact List.find?_some h
theorem choose_ex {M:List Mod} {P:ByteArray → Prop} (hO:Ord M P) {T R:List ByteArray} (hP:∀ x,P x ↔ x ∈ T∨x ∈ R) (hR:R≠[]):∃ b,chooseM M T R=some b:=by
 obtain ⟨s0,hs0⟩:=List.exists_mem_of_ne_nil R hR
 obtain ⟨s,hs,hmin⟩:=exists_least (fun s=>(hardL M s).length) _ R ⟨s0,hs0,Nat.le_refl _⟩
 have hPs:P s:=(hP s).2 (.inr hs)
 obtain ⟨m,hm,_,_⟩:=hO.mod s hPs
 have hmay:mayV M T s=true:=by
  rw [may_of hm,Bool.not_eq_true',List.any_eq_false]
  intro y hy
  have hyn:y ∈ needsOf M s:=by unfold needsOf;rw [hm];exact hy
  rcases (hP y).1 (hO.needs s y hPs hyn) with h1|h1
  ·simp [inM_iff.2 h1]
  ·have:=hard_less (hO.acyc s hPs) hyn
   have:=hmin y h1
   omega
 unfold chooseM
 split
 ·exact ⟨_,rfl⟩
 ·cases hf:R.find? (mayV M T) with
  | none=>exact absurd hmay (by have:=List.find?_eq_none.1 hf s hs;simpa using this)
  | some b=>exact ⟨b,rfl⟩
inductive LA (M:List Mod):List ByteArray → List ByteArray → Prop
 | nil (T:List ByteArray):LA M T []
 | cons {T o:List ByteArray} {b:ByteArray} {m:Mod}:Loads M T b m → LA M (T++[b]) o → LA M T (b :: o)
theorem LA.get {M:List Mod} {T o:List ByteArray} (h:LA M T o):∀ i,i < o.length → ∃ m,Loads M (T++o.take i) (o.getD i default) m:=by
 induction h with
 | nil T=>intro i hi;cases hi
 | cons h1 _ ih =>
  intro i hi
  cases i with
  | zero=>exact ⟨_,by simpa using h1⟩
  | succ i =>
   obtain ⟨m,hm⟩:=ih i (by simpa using hi)
   exact ⟨m,by simpa [List.append_assoc] using hm⟩
theorem ordF_all {M:List Mod} {P:ByteArray → Prop} (hO:Ord M P):∀ (n:Nat) (T R:List ByteArray),R.length=n → R.Nodup → (∀ x ∈ R,x ∉ T) → (∀ x,P x ↔ x ∈ T∨x ∈ R) →
  (ordF M n T R).length=n∧(∀ x ∈ ordF M n T R,x ∈ R)∧LA M T (ordF M n T R)
 | 0,T,R,_,_,_,_=>⟨rfl,by simp [ordF],by rw [ordF];exact .nil T⟩
 | n+1,T,R,hl,hnd,hdis,hP=>by
  obtain ⟨b,hb⟩:=choose_ex hO hP (by intro e;rw [e] at hl;cases hl)
  have hbR:=choose_mem hb
  have hmay:=choose_may hb
  obtain ⟨m,hm,hf,hml⟩:=hO.mod b ((hP b).2 (.inr hbR))
  rw [may_of hm,Bool.not_eq_true'] at hmay
  have hfl:=filter_len hnd hbR
  obtain ⟨i1,i2,i3⟩:=ordF_all hO n (T++[b]) (R.filter fun x=>decide (x≠b)) (by omega) (hnd.sublist List.filter_sublist)
   (fun x hx hxT=>by
    obtain ⟨hx1,hx2⟩:=List.mem_filter.1 hx
    rcases List.mem_append.1 hxT with h1|h1
    ·exact hdis x hx1 h1
    ·simp only [List.mem_singleton] at h1
     subst h1
     simp at hx2)
   (fun x=>by
    rw [hP x,List.mem_append,List.mem_filter,List.mem_singleton,decide_eq_true_eq]
    by_cases hxb:x=b
    ·subst hxb
     exact ⟨fun _=>.inl (.inr rfl),fun _=>.inr hbR⟩
    ·constructor
     ·rintro (h|h)
      ·exact .inl (.inl h)
      ·exact .inr ⟨h,hxb⟩
     ·rintro ((h|h)|h)
      ·exact .inl h
      ·exact absurd h hxb
      ·exact .inr h.1)
  rw [ordF,hb]
  refine ⟨by simp only [List.length_cons];omega,fun x hx=>?_,.cons ⟨hm,?_,hf,hmay,hml⟩ i3⟩
  ·rcases List.mem_cons.1 hx with rfl|hx
   ·exact hbR
   ·exact (List.mem_filter.1 (i2 x hx)).1
  ·cases hin:inM b T with
   | false=>rfl
   | true=>exact absurd (inM_iff.1 hin) (hdis b hbR)
theorem whyV_parts {M:List Mod} {off:List ByteArray} {n:ByteArray} (h:whyV M off n=0):∀ x ∈ hardL M n,(∃ m,modOf M x=some m∧m.fails=false)∧¬ Reach M x x:=by
 intro x hx
 unfold whyV at h
 split at h
 ·cases h
 rename_i n1
 split at h
 ·cases h
 rename_i n2
 split at h
 ·cases h
 rename_i n3
 refine ⟨?_,fun hr=>n2 ⟨x,hx,hr⟩⟩
 cases hm:modOf M x with
 | none=>exact absurd ⟨x,hx,hm⟩ n1
 | some m =>
  refine ⟨m,rfl,?_⟩
  cases hf:m.fails with
  | false=>rfl
  | true=>exact absurd ⟨x,hx,.inl (by rw [hm];exact hf)⟩ n3
theorem Cl.from {M:List Mod} {off names:List ByteArray} {x:ByteArray} (h:Cl M off names x):∃ s,whyV M off s=0∧x ∈ hardL M s∧∀ y ∈ hardL M s,Cl M off names y:=by
 cases h with
 | base h1 h2 h3=>exact ⟨_,h2,h3,fun y hy=>.base h1 h2 hy⟩
 | step h0 h1 h2 h3=>exact ⟨_,h2,h3,fun y hy=>.step h0 h1 h2 hy⟩
theorem clos_ord {M:List Mod} {off names:List ByteArray} (hl:∀ m ∈ M,m.needs.length≤1000000):Ord M (Cl M off names):=by
 refine ⟨fun x hx=>?_,fun x y hx hy=>?_,fun x hx=>?_⟩
 ·obtain ⟨s,h1,h2,_⟩:=hx.from
  obtain ⟨⟨m,hm,hf⟩,_⟩:=whyV_parts h1 x h2
  exact ⟨m,hm,hf,hl m (List.mem_of_find?_eq_some hm)⟩
 ·obtain ⟨s,h1,h2,h3⟩:=hx.from
  refine h3 y (((hard_spec M s).2.1 y).2 (.inr ?_))
  rcases ((hard_spec M s).2.1 x).1 h2 with rfl|hr
  ·exact .one hy
  ·exact .more hr hy
 ·obtain ⟨s,h1,h2,_⟩:=hx.from
  exact (whyV_parts h1 x h2).2
theorem clos_loads (M:List Mod) (off names:List ByteArray) (hl:∀ m ∈ M,m.needs.length≤1000000) :
  (ordM M [] (restM [] (closL M off names))).length=(closL M off names).length∧(∀ x ∈ ordM M [] (restM [] (closL M off names)),x ∈ closL M off names)∧LA M [] (ordM M [] (restM [] (closL M off names))):=by
 obtain ⟨c1,c2,_⟩:=clos_spec M off names
 obtain ⟨r1,r2,_⟩:=restM_spec [] (closL M off names)
 have hnd:=asc_nodup r1
 have hmem:∀ x,x ∈ restM [] (closL M off names) ↔ x ∈ closL M off names:=fun x=>by rw [r2];simp
 have hlen:(restM [] (closL M off names)).length=(closL M off names).length:=Nat.le_antisymm (nodup_len _ _ hnd fun x hx=>(hmem x).1 hx) (nodup_len _ _ (asc_nodup c1) fun x hx=>(hmem x).2 hx)
 obtain ⟨i1,i2,i3⟩:=ordF_all (clos_ord (off:=off) (names:=names) hl) _ [] (restM [] (closL M off names)) rfl hnd (fun _ _ h=>by cases h) fun x=>by rw [hmem,c2];simp
 exact ⟨by rw [← hlen];exact i1,fun x hx=>(hmem x).1 (i2 x hx),i3⟩
end Go.Proofs.YtgijigkfmbiifaaGreatDoor
namespace Go.Proofs.YtgijigkfmbiifaaGreatDoor
attribute [local irreducible] PL QL PWPr PCalls Weak RetK Kontr PA
open Go.RowKit
open IntWalk renaming iteOmega → iO, toNatUp → tN
set_option linter.unusedVariables false
set_option linter.unusedSimpArgs false
set_option maxRecDepth 20000
def nmL:List ByteArray:=[⟨#[97]⟩,⟨#[98]⟩,⟨#[99]⟩,⟨#[100]⟩,⟨#[101]⟩,⟨#[110,105,99]⟩,⟨#[99,111,114,101]⟩,⟨#[101,120,116,114,97]⟩,⟨#[111,116,104,101,114]⟩,⟨#[104,105,100]⟩,⟨#[103,111,110,101]⟩]
theorem nmL_size:∀ x ∈ nmL,x.size≤10:=by intro x hx;simp [nmL] at hx;rcases hx with h|h|h|h|h|h|h|h|h|h|h<;>(subst h;decide)
theorem names_pure (L:List Int) (k:Nat) (hk:k < 1000) (hL:∀ x ∈ L,-9223372036854775808≤x∧x≤9223372036854775807) (hl:L.length≤9223372036854775807) :
  PCalls Tryz.prog 6 [.c (.ptr 0 0)] [tape L k] fun r os=>∃ (l:List ByteArray) (k':Nat),(l.length≤5∧k'≤k+6∧∀ x ∈ l,x.size≤10)∧r = .c (.own 1 l.length)∧os=[tape L k',.arr 9 1 (l.map strD)]:=by
 refine pcalls_of Tryz.func6 rfl (by simp [Tryz.ntmps6]) ?_
 rw [Tryz.ntmps6,Tryz.results6]
 push_cast [iO,tN]
 repeat' (first |  (refine plc [0] (next_ex L k 5 (by omega) (by omega) (by omega) hL hl) ?_ ?_;push_cast [iO,tN];rintro r os ⟨v,hv,rfl,rfl⟩;push_cast [iO,tN])  | ((first|refine pG ?_|refine pQ ?_|refine pU ?_);push_cast [iO,tN])|(refine pif (fun h=>?_) (fun h=>?_)<;>first|exact pN h|push_cast [iO,tN]))
 refine pwp_weak (weak_adopt 3 9 1 (by omega) (by push_cast [iO,tN])) ?_
 push_cast [iO,tN]
 refine pwp_loop2 (α:=Nat × List ByteArray) (fun x=>x.1+x.2.length=v.toNat∧∀ y ∈ x.2,y.size≤10) (fun x=>⟨[(4,.c (.v (.int .i64 x.1))),(3,.c (.own 1 x.2.length)),(0,.c (.ptr 0 0))],[tape L (k+1+x.2.length),.arr 9 1 (x.2.map strD)]⟩) (fun x=>x.1) (v.toNat,[]) ⟨by simp,by simp⟩ (by (refine weak_fg ?_;push_cast [iO,tN]);omega) ?_
 rintro ⟨j,l⟩ ⟨hj,hsz⟩
 simp only at hj hsz
 by_cases h0:0 < j
 ·repeat' (first|(refine plc [0] (one_ex L (k+1+l.length) nmL (by omega) (by decide) (by decide) hL hl) ?_ ?_;push_cast [iO,tN,nmL];rintro r os ⟨s,hs,rfl,rfl⟩;push_cast [iO,tN,nmL])|((first|refine pG ?_|refine pQ ?_|refine pU ?_);push_cast [iO,tN,nmL])|(refine pif (fun h=>?_) (fun h=>?_)<;>first|exact pN h|push_cast [iO,tN,nmL]))
  refine ⟨(j - 1,l++[s]),⟨by simp;omega,fun y hy=>?_⟩,by (refine weak_fg ?_;push_cast [iO,tN]);omega,by simp only;omega⟩
  rcases List.mem_append.1 hy with hy|hy
  ·exact hsz y hy
  ·simp at hy;subst hy;exact nmL_size _ hs
 ·repeat' (first|((first|refine pG ?_|refine pQ ?_|refine pU ?_);push_cast [iO,tN])|(refine pif (fun h=>?_) (fun h=>?_)<;>first|exact pN h|push_cast [iO,tN]))
  (refine retK_of [0,1] ?_;push_cast [iO,tN])
  exact ⟨_,_,leP_refl _,leOs_refl _,l,k+1+l.length,⟨by omega,by omega,hsz⟩,rfl,by simp⟩
end Go.Proofs.YtgijigkfmbiifaaGreatDoor
namespace Go.Proofs.YtgijigkfmbiifaaGreatDoor
open Go.RowKit
open IntWalk renaming iteOmega → iO, toNatUp → tN
set_option linter.unusedVariables false
set_option linter.unusedSimpArgs false
structure OkMod (m:Mod):Prop where
 needs:m.needs.length≤10
 pre:m.pre.length≤10
 post:m.post.length≤10
 needsz:∀ x ∈ m.needs,x.size≤10
 prez:∀ x ∈ m.pre,x.size≤10
 postz:∀ x ∈ m.post,x.size≤10
 name:m.name≠⟨#[]⟩
 namez:m.name.size≤10
structure OkCfg (c:Cfg):Prop where
 mods:∀ m ∈ c.modules,OkMod m
 len:c.modules.length≤10
 nodup:(c.modules.map Mod.name).Nodup
 off:c.off.length≤10
theorem pick_size {L:List Int} {k:Nat} {l:List ByteArray} (h0:0 < l.length) (h:∀ x ∈ l,x.size≤10):(pick L k l).size≤10:=by
 have:=fold_bds (tapeAt L k) l.length (by omega)
 unfold pick
 rw [getD_lt _ (by omega)]
 exact h _ (List.getElem_mem _)
theorem OkCfg.soft {c:Cfg} (h:OkCfg c) (n:ByteArray):(softOf c.modules n).length≤20∧∀ x ∈ softOf c.modules n,x.size≤10:=by
 unfold softOf
 cases hm:modOf c.modules n with
 | none=>simp [noMod]
 | some m =>
  have hk:=h.mods m (mod_mem hm).1
  refine ⟨by have:=hk.pre;have:=hk.post;simp only [Option.getD_some,List.length_append];omega,fun x hx=>?_⟩
  rcases List.mem_append.1 hx with hx|hx
  ·exact hk.prez x hx
  ·exact hk.postz x hx
theorem OkCfg.ok {c:Cfg} (h:OkCfg c):CfgOk2 c:=by
 have hz:(10:Nat)≤maxLen:=by unfold maxLen;omega
 refine ⟨⟨⟨by have:=h.len;omega,fun m hm=>by have:=(h.mods m hm).needs;omega,fun m hm=>by have:=(h.mods m hm).pre;omega,fun m hm=>by have:=(h.mods m hm).post;omega,h.nodup,fun m hm=>(h.mods m hm).name⟩,⟨fun x hx=>?_⟩,by have:=h.off;omega⟩,fun n x hx=>Nat.le_trans ((h.soft n).2 x hx) hz,fun n=>by have:=(h.soft n).1;omega⟩
 obtain ⟨m,hm,hx⟩:=List.mem_flatMap.1 hx
 exact Nat.le_trans ((h.mods m hm).needsz x hx) hz
theorem infoGrT:(Tryz.prog.info? 9).map (fun i=>(i.zero,i.size,i.bytes))=some (some (Value.string ByteArray.empty),1,16):=by kernel_rfl
set_option maxRecDepth 1000000 in
theorem growT_walk (n:Nat) (w:World) (hn:n≤1099511627776) :
  Calls Tryz.prog 93 #[.slice none 0 0,.int .i64 (n:Int)] w fun e w'=>∃ vs,e = .returned vs∧w'.ownsRow w.heap.size 9 1 vs 0 []∧Ext No w w':=by
 by_cases h0:n=0
 ·subst h0
  go_enter Tryz.func93,Tryz.ntmps93
  go_wp2
  go_ret
  exact ⟨_,rfl,own_nil _ _ _ _,Ext.refl _ _⟩
 ·obtain ⟨i,hi,hz,hs,hb⟩:=info_parts infoGrT
  have hrun:=Lib.run_append_nil_zeros (P:=Tryz.prog) w 27 3 27 9 i _ .i64 .i64 Tryz.underlying27 Tryz.underlying3 hi hz n (by omega) (by rw [hs];decide) (by omega) (by rw [hb];omega)
  have hown:(w.drew.alloc (.cells (Builtin.zeroCells (Value.string ByteArray.empty).cells n++Builtin.zeroCells (Value.string ByteArray.empty).cells (grownCap w n 0 9 - n)) 9)).ownsRow w.heap.size 9 1 (.slice (some ⟨w.heap.size,0,none⟩) 0 (grownCap w n 0 9)) 0 []:=by
   have hge:=grownCap_ge w n 0 9
   have hcm:grownCap w n 0 9≤maxLen:=grownCap_le_maxLen w n 0 9 (by simp only [maxLen];omega)
   refine ⟨rfl,.inr ⟨w.heap.size,_,_,rfl,Nat.le_refl _,heap_alloc_new w.drew _,Nat.zero_le _,hcm,?_,by simp⟩⟩
   simp only [Array.size_append,size_zeroCells]
   show n * 1+(grownCap w n 0 9 - n) * 1=_
   omega
  have hE:Ext No w (w.drew.alloc (.cells (Builtin.zeroCells (Value.string ByteArray.empty).cells n++Builtin.zeroCells (Value.string ByteArray.empty).cells (grownCap w n 0 9 - n)) 9)):=(Ext.refl No w).drew.alloc _
  generalize w.drew.alloc (.cells (Builtin.zeroCells (Value.string ByteArray.empty).cells n++Builtin.zeroCells (Value.string ByteArray.empty).cells (grownCap w n 0 9 - n)) 9)=W1 at hrun hown hE
  have hcap:=grownCap_ge w n 0 9
  generalize grownCap w n 0 9=cap at hrun hown hcap
  have HR:=Lib.hid hrun
  have HO:=Lib.hid hown
  have HE:=Lib.hid hE
  clear hrun hown hE hi hz hs hb
  go_enter Tryz.func93,Tryz.ntmps93
  go_wp2_with (at_builtin;refine Lib.wpList_append_run _ rfl (.tmp 20) (.tmp 21) 27 3 rfl (.slice none 0 0) (.int .i64 (n:Int)) rfl rfl _ W1 HR.out ?_)
  go_ret
  exact ⟨_,rfl,HO.out,HE.out⟩
theorem growT_pure (n:Nat) (hn:n≤1000000000) :
  PCalls Tryz.prog 93 [.c (.v (.slice none 0 0)),.c (.v (.int .i64 n))] [] fun r os=>r = .c (.own 0 0)∧os=[.arr 9 1 []]:=fun Γ w xs hm hx=>by
 have hxs:=rp_vals (vs:=[.slice none 0 0,.int .i64 (n:Int)]) hx
 rw [hxs]
 refine (growT_walk n w (by omega)).mono ?_
 rintro e w' ⟨v,rfl,hrow,hE⟩
 have hS:=Same.of_ext hE
 have hn0:Γ.n=0:=hm.n
 obtain ⟨_,h2⟩:=hrow
 have fin:∀ (b c:Nat) (v:Value),RO w' (Γ.push b c) Γ.n (.arr 9 1 []) → (0 < c → w.heap.size≤b) → OwnRep (Γ.push b c) Γ.n 0 v →
   ∃ r os' Γ' y,Ending.returned v = .returned y∧(r = .c (.own 0 0)∧os'=[.arr 9 1 []])∧RP w' Γ' r y∧([]:List Ob).length≤os'.length∧MemOk Γ' os' w'∧Grow ([]:List Ob).length Γ w Γ' w':=by
  intro b c v hro hb hrep
  rw [hn0] at hrep
  exact ⟨_,_,Γ.push b c,v,rfl,⟨rfl,rfl⟩,⟨by simp [G.push,hn0],hrep⟩,by simp,hm.push hS _ b c hro hb,grow_push hm hE b c hb (Nat.zero_le _)⟩
 rcases h2 with ⟨rfl,_⟩|⟨g,cap,cur,rfl,hb,hg,_,hcm,hsz,_⟩
 ·exact fin 0 0 _ ⟨by simp,by omega,fun _=>rfl,fun h=>absurd h (by simp [G.push,upd_same])⟩ (fun h=>absurd h (by omega)) (.inl ⟨by simp [G.push,upd_same],⟨none,rfl⟩,rfl⟩)
 ·rcases Nat.eq_zero_or_pos cap with h0|h0
  ·subst h0
   exact fin 0 0 _ ⟨by simp,by omega,fun _=>rfl,fun h=>absurd h (by simp [G.push,upd_same])⟩ (fun h=>absurd h (by omega)) (.inl ⟨by simp [G.push,upd_same],⟨_,rfl⟩,rfl⟩)
  ·refine fin g cap _ ⟨by simp,by omega,fun _=>rfl,fun _=>⟨cur,by simp only [G.push,upd_same];exact hg,by simp only [G.push,upd_same];exact hsz,by simp,by simp only [G.push,upd_same];exact hcm,by simp [All2]⟩⟩ (fun _=>hb) (.inr ⟨by simp [G.push,upd_same,h0],by simp [G.push,upd_same],by simp⟩)
end Go.Proofs.YtgijigkfmbiifaaGreatDoor
namespace Go.Proofs.YtgijigkfmbiifaaGreatDoor
attribute [local irreducible] PL QL PWPr PCalls Weak RetK Kontr PA
open Go.RowKit
open IntWalk renaming iteOmega → iO, toNatUp → tN
set_option linter.unusedVariables false
set_option linter.unusedSimpArgs false
set_option maxRecDepth 20000
set_option maxRecDepth 20000
set_option maxHeartbeats 4000000 in
theorem concat3_pure (A B C:List ByteArray) (hA:A.length≤1000000) (hB:B.length≤1000000) (hC:C.length≤1000000) :
  PCalls Tryz.prog 57 [.c (.sl 1 [[D.sl 1 (A.map strD)],[D.sl 1 (B.map strD)],[D.sl 1 (C.map strD)]])] [] fun r os=>r = .c (.own 0 ((A++B++C).length))∧os=[.arr 9 1 ((A++B++C).map strD)]:=by
 refine pcalls_of Tryz.func57 rfl (by simp [Tryz.ntmps57]) ?_
 rw [Tryz.ntmps57,Tryz.results57]
 push_cast [iO,tN]
 have cB:CutB 12 [25,26,27]:=trivial
 repeat' (first|((first|refine pC ?_|refine pQC ?_|refine pU ?_);push_cast [iO,tN])|(refine pif (fun h=>?_) (fun h=>?_)<;>first|exact pN h|push_cast [iO,tN]))
 (apply pwp_loop3 (α:=Nat) 12 [25,26,27] (fun k=>[(11,.c (.v (.int .i64 k))),(3,.c (.v (.int .i64 (if k=0 then 0 else if k=1 then (A.length:Int) else if k=2 then A.length+B.length else A.length+B.length+C.length))))]) (fun k=>[]) (fun k=>k≤3) (fun k=>3 - k) (0);(focus ((try push_cast [iO,tN]);rfl));(focus exact (by omega));(focus ((refine weak_fg ?_;try push_cast [iO,tN]))))
 intro k hk
 have h3:k=0∨k=1∨k=2∨k=3:=by omega
 rcases h3 with rfl|rfl|rfl|rfl
 ·push_cast [iO,tN]
  repeat' (first|((first|refine pC ?_|refine pQC ?_|refine pU ?_);push_cast [iO,tN])|(refine pif (fun h=>?_) (fun h=>?_)<;>first|exact pN h|push_cast [iO,tN]))
  exact ⟨1,by omega,by (refine weak_fg ?_;push_cast [iO,tN]),by omega⟩
 ·push_cast [iO,tN]
  repeat' (first|((first|refine pC ?_|refine pQC ?_|refine pU ?_);push_cast [iO,tN])|(refine pif (fun h=>?_) (fun h=>?_)<;>first|exact pN h|push_cast [iO,tN]))
  exact ⟨2,by omega,by (refine weak_fg ?_;push_cast [iO,tN]),by omega⟩
 ·push_cast [iO,tN]
  repeat' (first|((first|refine pC ?_|refine pQC ?_|refine pU ?_);push_cast [iO,tN])|(refine pif (fun h=>?_) (fun h=>?_)<;>first|exact pN h|push_cast [iO,tN]))
  exact ⟨3,by omega,by (refine weak_fg ?_;push_cast [iO,tN]),by omega⟩
 ·have hg:=growT_pure (A.length+B.length+C.length) (by omega)
  push_cast [iO,tN]
  repeat' (first |  (refine plc [] (hg) ?_ ?_;push_cast [iO,tN];rintro r os ⟨rfl,rfl⟩;push_cast [iO,tN])  | ((first|refine pC ?_|refine pQC ?_|refine pU ?_);push_cast [iO,tN])|(refine pif (fun h=>?_) (fun h=>?_)<;>first|exact pN h|push_cast [iO,tN]))
  (apply pwp_loop3 (α:=Nat) 12 [25,26,27] (fun k=>[(27,.c (.v (.int .i64 k))),(6,.c (.own 0 (if k=0 then 0 else if k=1 then A.length else if k=2 then A.length+B.length else A.length+B.length+C.length)))]) (fun k=>[(0,.arr 9 1 (if k=0 then [] else if k=1 then A.map strD else if k=2 then (A++B).map strD else (A++B++C).map strD))]) (fun k=>k≤3) (fun k=>3 - k) (0);(focus ((try push_cast [iO,tN]);rfl));(focus exact (by omega));(focus ((refine weak_fg ?_;try push_cast [iO,tN]))))
  intro k hk
  have h3:k=0∨k=1∨k=2∨k=3:=by omega
  rcases h3 with rfl|rfl|rfl|rfl
  ·push_cast [iO,tN]
   repeat' (first|((first|refine pC ?_|refine pQC ?_|refine pU ?_);push_cast [iO,tN])|(refine pif (fun h=>?_) (fun h=>?_)<;>first|exact pN h|push_cast [iO,tN]))
   exact ⟨1,by omega,by (refine weak_fg ?_;push_cast [iO,tN]),by omega⟩
  ·push_cast [iO,tN]
   repeat' (first|((first|refine pC ?_|refine pQC ?_|refine pU ?_);push_cast [iO,tN])|(refine pif (fun h=>?_) (fun h=>?_)<;>first|exact pN h|push_cast [iO,tN]))
   exact ⟨2,by omega,by (refine weak_fg ?_;push_cast [iO,tN]),by omega⟩
  ·push_cast [iO,tN]
   repeat' (first|((first|refine pC ?_|refine pQC ?_|refine pU ?_);push_cast [iO,tN])|(refine pif (fun h=>?_) (fun h=>?_)<;>first|exact pN h|push_cast [iO,tN]))
   exact ⟨3,by omega,by (refine weak_fg ?_;push_cast [iO,tN]),by omega⟩
  ·push_cast [iO,tN]
   repeat' (first|((first|refine pC ?_|refine pQC ?_|refine pU ?_);push_cast [iO,tN])|(refine pif (fun h=>?_) (fun h=>?_)<;>first|exact pN h|push_cast [iO,tN]))
   (refine retK_of [0] ?_;push_cast [iO,tN])
   all_goals omega
set_option maxRecDepth 20000
def fewB (m:Mod):Bool:=decide (m.aliases.length≤16) && decide (m.needs.length≤16) && decide (m.pre.length≤16) && decide (m.post.length≤16)
def modB (m:Mod):Bool:=fewB m && !(m.aliases.any fun p=>decide (globM p≠0)) && validS m.name && !((m.needs++m.pre++m.post).any fun s=>!validS s)
structure ModFit (m:Mod):Prop where
 name:Fit m.name
 als:∀ s ∈ m.aliases,Fit s
 ne:∀ s ∈ m.needs,Fit s
 pr:∀ s ∈ m.pre,Fit s
 po:∀ s ∈ m.post,Fit s
 l1:m.aliases.length≤9223372036854775807
 l2:m.needs.length≤9223372036854775807
 l3:m.pre.length≤9223372036854775807
 l4:m.post.length≤9223372036854775807
theorem kval1_pure (p:ByteArray) (hp:Fit p):PCalls Tryz.prog 54 [.c (.v (.string p))] [] fun r os=>r = .c (.v (.bool (decide (globM p≠0))))∧os=[]:=by
 have hc:=gchk_pure p hp
 refine pcalls_of Tryz.func54 rfl (by simp [Tryz.ntmps54]) ?_
 rw [Tryz.ntmps54,Tryz.results54]
 push_cast [iO,tN]
 repeat' (first |  ((refine plc [] (hc) ?_ ?_;push_cast [iO,tN];rintro r os ⟨rfl,rfl⟩;push_cast [iO,tN]))  | ((first|refine pG ?_|refine pQ ?_|refine pU ?_);push_cast [iO,tN])|(refine pif (fun h=>?_) (fun h=>?_)<;>first|exact pN h|push_cast [iO,tN]))
 (refine retK_of [] ?_;push_cast [iO,tN])
theorem kval2_pure (p:ByteArray) (hp:Fit p):PCalls Tryz.prog 58 [.c (.v (.string p))] [] fun r os=>r = .c (.v (.bool (!validS p)))∧os=[]:=by
 have hc:=valid_pure p hp
 refine pcalls_of Tryz.func58 rfl (by simp [Tryz.ntmps58]) ?_
 rw [Tryz.ntmps58,Tryz.results58]
 push_cast [iO,tN]
 repeat' (first |  ((refine plc [] (hc) ?_ ?_;push_cast [iO,tN];rintro r os ⟨rfl,rfl⟩;push_cast [iO,tN]))  | ((first|refine pG ?_|refine pQ ?_|refine pU ?_);push_cast [iO,tN])|(refine pif (fun h=>?_) (fun h=>?_)<;>first|exact pN h|push_cast [iO,tN]))
 (refine retK_of [] ?_;push_cast [iO,tN])
def lstM (m:Mod) (k:Nat):List ByteArray:=if k=0 then m.aliases else if k=1 then m.needs else if k=2 then m.pre else m.post
set_option maxHeartbeats 8000000 in
theorem kvalid_pure (m:Mod) (hm:ModFit m):PCalls Tryz.prog 36 [.agg m.e] [] fun r os=>r = .c (.v (.bool (modB m)))∧os=[]:=by
 refine pcalls_of Tryz.func36 rfl (by simp [Tryz.ntmps36]) ?_
 rw [Tryz.ntmps36,Tryz.results36]
 have q1:=hm.l1
 have q2:=hm.l2
 have q3:=hm.l3
 have q4:=hm.l4
 push_cast [iO,tN]
 have cB:CutB 5 [13,14,15,29]:=trivial
 repeat' (first|((first|refine pC ?_|refine pQC ?_|refine pU ?_);push_cast [iO,tN])|(refine pif (fun h=>?_) (fun h=>?_)<;>first|exact pN h|push_cast [iO,tN]))
 (apply pwp_loop3 (α:=Nat) 5 [13,14,15,29] (fun k=>[(15,.c (.v (.int .i64 k)))]) (fun k=>[]) (fun k=>k≤4∧∀ j,j < k → (lstM m j).length≤16) (fun k=>4 - k) (0);(focus ((try push_cast [iO,tN]);rfl));(focus exact ⟨by omega,fun j hj=>by omega⟩);(focus ((refine weak_fg ?_;try push_cast [iO,tN]))))
 rintro k ⟨hk,hpre⟩
 have hlast:(¬ fewB m=true → modB m=false):=fun h=>by unfold modB;rw [Bool.not_eq_true] at h;rw [h];rfl
 have h5:k=0∨k=1∨k=2∨k=3∨k=4:=by omega
 have hstep:(lstM m k).length≤16 → ∀ j,j < k+1 → (lstM m j).length≤16:=fun h j hj=>by
  rcases Nat.lt_or_ge j k with h'|h'
  ·exact hpre j h'
  ·rw [show j=k by omega];exact h
 rcases h5 with rfl|rfl|rfl|rfl|rfl
 ·push_cast [iO,tN]
  by_cases hl:m.aliases.length≤16
  ·repeat' (first|((first|refine pC ?_|refine pQC ?_|refine pU ?_);push_cast [iO,tN])|(refine pif (fun h=>?_) (fun h=>?_)<;>first|exact pN h|push_cast [iO,tN]))
   exact ⟨1,⟨by omega,hstep hl⟩,by (refine weak_fg ?_;push_cast [iO,tN]),by omega⟩
  ·have hf:=hlast (by unfold fewB;rw [decide_eq_false hl];simp)
   have hl2:(16:Int) < (m.aliases.length:Int):=by omega
   repeat' (first|((first|refine pC ?_|refine pQC ?_|refine pU ?_);push_cast [iO,tN,hl2])|(refine pif (fun h=>?_) (fun h=>?_)<;>first|exact pN h|push_cast [iO,tN,hl2]))
   (refine retK_of [] ?_;push_cast [iO,tN,hf])
 ·push_cast [iO,tN]
  by_cases hl:m.needs.length≤16
  ·repeat' (first|((first|refine pC ?_|refine pQC ?_|refine pU ?_);push_cast [iO,tN])|(refine pif (fun h=>?_) (fun h=>?_)<;>first|exact pN h|push_cast [iO,tN]))
   exact ⟨2,⟨by omega,hstep hl⟩,by (refine weak_fg ?_;push_cast [iO,tN]),by omega⟩
  ·have hf:=hlast (by unfold fewB;rw [decide_eq_false hl];simp)
   have hl2:(16:Int) < (m.needs.length:Int):=by omega
   repeat' (first|((first|refine pC ?_|refine pQC ?_|refine pU ?_);push_cast [iO,tN,hl2])|(refine pif (fun h=>?_) (fun h=>?_)<;>first|exact pN h|push_cast [iO,tN,hl2]))
   (refine retK_of [] ?_;push_cast [iO,tN,hf])
 ·push_cast [iO,tN]
  by_cases hl:m.pre.length≤16
  ·repeat' (first|((first|refine pC ?_|refine pQC ?_|refine pU ?_);push_cast [iO,tN])|(refine pif (fun h=>?_) (fun h=>?_)<;>first|exact pN h|push_cast [iO,tN]))
   exact ⟨3,⟨by omega,hstep hl⟩,by (refine weak_fg ?_;push_cast [iO,tN]),by omega⟩
  ·have hf:=hlast (by unfold fewB;rw [decide_eq_false hl];simp)
   have hl2:(16:Int) < (m.pre.length:Int):=by omega
   repeat' (first|((first|refine pC ?_|refine pQC ?_|refine pU ?_);push_cast [iO,tN,hl2])|(refine pif (fun h=>?_) (fun h=>?_)<;>first|exact pN h|push_cast [iO,tN,hl2]))
   (refine retK_of [] ?_;push_cast [iO,tN,hf])
 ·push_cast [iO,tN]
  by_cases hl:m.post.length≤16
  ·repeat' (first|((first|refine pC ?_|refine pQC ?_|refine pU ?_);push_cast [iO,tN])|(refine pif (fun h=>?_) (fun h=>?_)<;>first|exact pN h|push_cast [iO,tN]))
   exact ⟨4,⟨by omega,hstep hl⟩,by (refine weak_fg ?_;push_cast [iO,tN]),by omega⟩
  ·have hf:=hlast (by unfold fewB;rw [decide_eq_false hl];simp)
   have hl2:(16:Int) < (m.post.length:Int):=by omega
   repeat' (first|((first|refine pC ?_|refine pQC ?_|refine pU ?_);push_cast [iO,tN,hl2])|(refine pif (fun h=>?_) (fun h=>?_)<;>first|exact pN h|push_cast [iO,tN,hl2]))
   (refine retK_of [] ?_;push_cast [iO,tN,hf])
 ·have g1:m.aliases.length≤16:=hpre 0 (by omega)
  have g2:m.needs.length≤16:=hpre 1 (by omega)
  have g3:m.pre.length≤16:=hpre 2 (by omega)
  have g4:m.post.length≤16:=hpre 3 (by omega)
  have hfew:fewB m=true:=by unfold fewB;rw [decide_eq_true g1,decide_eq_true g2,decide_eq_true g3,decide_eq_true g4];rfl
  have hmod:modB m=(!(m.aliases.any fun p=>decide (globM p≠0)) && validS m.name && !((m.needs++m.pre++m.post).any fun s=>!validS s)):=by unfold modB;rw [hfew,Bool.true_and]
  have c1:=containsFuncS_pure m.aliases (by omega) 54 [] [] (fun p=>decide (globM p≠0)) ⟨by kernel_rfl,fun x hx=>kval1_pure x (hm.als x hx)⟩
  have c2:=valid_pure m.name hm.name
  have c3:=concat3_pure m.needs m.pre m.post (by omega) (by omega) (by omega)
  have c4:=containsFuncS_pure (m.needs++m.pre++m.post) (by simp only [List.length_append];omega) 58 [] [] (fun s=>!validS s) ⟨by kernel_rfl,fun x hx=>kval2_pure x (by
   rcases List.mem_append.1 hx with hx|hx
   ·rcases List.mem_append.1 hx with hx|hx
    ·exact hm.ne x hx
    ·exact hm.pr x hx
   ·exact hm.po x hx)⟩
  rw [hmod]
  obtain ⟨A1,hA1⟩:∃ A1,(m.aliases.any fun p=>decide (globM p≠0))=A1:=⟨_,rfl⟩
  obtain ⟨A2,hA2⟩:∃ A2,validS m.name=A2:=⟨_,rfl⟩
  obtain ⟨cc,hcc⟩:∃ cc,m.needs++m.pre++m.post=cc:=⟨_,rfl⟩
  rw [hcc] at c3 c4 ⊢
  obtain ⟨A3,hA3⟩:∃ A3,(cc.any fun s=>!validS s)=A3:=⟨_,rfl⟩
  have htk:=List.take_of_length_le (l:=cc.map strD) (i:=cc.length) (by simp)
  rw [hA1] at c1 ⊢
  rw [hA2] at c2 ⊢
  rw [hA3] at c4 ⊢
  push_cast [iO,tN]
  cases A1 with
  | true =>
   repeat' (first |  ((refine plc [] (c1) ?_ ?_;push_cast [iO,tN];rintro r os ⟨rfl,rfl⟩;push_cast [iO,tN]))  | ((first|refine pC ?_|refine pQC ?_|refine pU ?_);push_cast [iO,tN])|(refine pif (fun h=>?_) (fun h=>?_)<;>first|exact pN h|push_cast [iO,tN]))
   (refine retK_of [] ?_;push_cast [iO,tN])
  | false =>
   cases A2 with
   | false =>
    repeat' (first |  ((refine plc [] (c1) ?_ ?_;push_cast [iO,tN];rintro r os ⟨rfl,rfl⟩;push_cast [iO,tN]))|((refine plc [] (c2) ?_ ?_;push_cast [iO,tN];rintro r os ⟨rfl,rfl⟩;push_cast [iO,tN]))  | ((first|refine pC ?_|refine pQC ?_|refine pU ?_);push_cast [iO,tN])|(refine pif (fun h=>?_) (fun h=>?_)<;>first|exact pN h|push_cast [iO,tN]))
    (refine retK_of [] ?_;push_cast [iO,tN])
   | true =>
    repeat' (first|((refine plc [] (c1) ?_ ?_;push_cast [iO,tN,htk];rintro r os ⟨rfl,rfl⟩;push_cast [iO,tN,htk]))|((refine plc [] (c2) ?_ ?_;push_cast [iO,tN,htk];rintro r os ⟨rfl,rfl⟩;push_cast [iO,tN,htk]))|((refine plc [] (c3) ?_ ?_;push_cast [iO,tN,htk];rintro r os ⟨rfl,rfl⟩;push_cast [iO,tN,htk]))|((refine pl_call2 true [] rfl rfl (by kernel_rfl) (c4) ?_ ?_ ?_;push_cast [iO,tN,htk];(intro _ r os;rintro ⟨rfl,rfl⟩;push_cast [iO,tN,htk]);rintro r os ⟨rfl,rfl⟩;refine pl_of_pops ?_;push_cast [iO,tN,htk]))|((first|refine pC ?_|refine pQC ?_|refine pU ?_);push_cast [iO,tN,htk])|(refine pif (fun h=>?_) (fun h=>?_)<;>first|exact pN h|push_cast [iO,tN,htk]))
    (refine retK_of [] ?_;push_cast [iO,tN])
set_option maxRecDepth 20000
set_option maxRecDepth 20000
set_option maxRecDepth 20000
set_option maxRecDepth 20000
set_option maxRecDepth 20000
set_option maxRecDepth 20000
set_option maxRecDepth 20000
end Go.Proofs.YtgijigkfmbiifaaGreatDoor
