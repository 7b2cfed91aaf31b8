/- What the program computes, and the plain laws of it, part 25. -/
import Derived.Test.YthconflkbeipoaaGreatDoorS23
import Derived.Test.YthconflkbeipoaaGreatDoorS24
namespace Go.Proofs.YthconflkbeipoaaGreatDoor
attribute [local irreducible] PL QL PWPr PCalls Weak RetK Kontr PA
open Go.RowKit
open IntWalk renaming iteOmega → iO, toNatUp → tN
set_option linter.unusedVariables false
set_option linter.unusedSimpArgs false
set_option maxRecDepth 20000
def fitAt (now names:List Atr) (i:Nat):Bool:=(((valOf now (names.getD i default).name).isSome && !inM (names.getD i default).name (keys (names.take i))) && !inM (names.getD i default).value (vals (names.take i))) && ifaceS (names.getD i default).value
def fitsB (now names:List Atr):Bool:=((List.range names.length).all fun i=>fitAt now names i) && !(now.any fun x=>inM x.value (vals names) && !inM x.name (keys names))
theorem keys_snoc (names:List Atr) {k:Nat} (hk:k < names.length):keys (names.take (k+1))=keys (names.take k)++[(names.getD k default).name]:=by
 unfold keys
 rw [List.take_succ_eq_append_getElem hk,List.map_append,List.map_singleton,getD_lt names hk]
theorem vals_snoc (names:List Atr) {k:Nat} (hk:k < names.length):vals (names.take (k+1))=vals (names.take k)++[(names.getD k default).value]:=by
 unfold vals
 rw [List.take_succ_eq_append_getElem hk,List.map_append,List.map_singleton,getD_lt names hk]
theorem addS_snoc {l:List ByteArray} {s:ByteArray} (h:inM s l=false):addS l s=l++[s]:=by unfold addS;rw [h];rfl
theorem fitsB_no {now names:List Atr} {i:Nat} (hi:i < names.length) (h:fitAt now names i=false):fitsB now names=false:=by
 unfold fitsB
 rw [Bool.and_eq_false_iff]
 left
 cases hc:(List.range names.length).all fun i=>fitAt now names i with
 | false=>rfl
 | true =>
  have:=List.all_eq_true.1 hc i (List.mem_range.2 hi)
  rw [h] at this;cases this
abbrev fitO (V K:List ByteArray):List Ob:=[.box 75 [.mp 2],.box 75 [.mp 3],.map none false (setE V),.map none false (setE K)]
theorem fits1_pure (V K:List ByteArray) (a:Atr):PCalls Tryz.prog 79 [.agg (a.d.map D.e),.c (.ptr 0 0),.c (.ptr 1 0)] (fitO V K) fun r os=>r = .c (.v (.bool (inM a.value V && !inM a.name K)))∧os=fitO V K:=by
 have h1:=lk_set V a.value
 have h2:=lk_set K a.name
 cases hv:inM a.value V with
 | false =>
  rw [hv] at h1
  refine pcalls_of Tryz.func79 rfl (by simp [Tryz.ntmps79]) ?_
  rw [Tryz.ntmps79,Tryz.results79]
  push_cast [iO,tN]
  repeat' (first|((first|refine pG ?_|refine pQ ?_|refine pU ?_);push_cast [iO,tN,h1])|(refine pif (fun h=>?_) (fun h=>?_)<;>first|exact pN h|push_cast [iO,tN,h1]))
  (refine retK_of [0,1,2,3] ?_;push_cast [iO,tN])
 | true =>
  rw [hv] at h1
  cases hk:inM a.name K with
  | false =>
   rw [hk] at h2
   refine pcalls_of Tryz.func79 rfl (by simp [Tryz.ntmps79]) ?_
   rw [Tryz.ntmps79,Tryz.results79]
   push_cast [iO,tN]
   repeat' (first|((first|refine pG ?_|refine pQ ?_|refine pU ?_);push_cast [iO,tN,h1,h2])|(refine pif (fun h=>?_) (fun h=>?_)<;>first|exact pN h|push_cast [iO,tN,h1,h2]))
   (refine retK_of [0,1,2,3] ?_;push_cast [iO,tN])
  | true =>
   rw [hk] at h2
   refine pcalls_of Tryz.func79 rfl (by simp [Tryz.ntmps79]) ?_
   rw [Tryz.ntmps79,Tryz.results79]
   push_cast [iO,tN]
   repeat' (first|((first|refine pG ?_|refine pQ ?_|refine pU ?_);push_cast [iO,tN,h1,h2])|(refine pif (fun h=>?_) (fun h=>?_)<;>first|exact pN h|push_cast [iO,tN,h1,h2]))
   (refine retK_of [0,1,2,3] ?_;push_cast [iO,tN])
set_option maxHeartbeats 8000000 in
theorem fits_pure (now names:List Atr) (hn:now.length≤1000000) (hm:names.length≤1000000) (hz:∀ x ∈ names,x.value.size≤9223372036854775807) :
  PCalls Tryz.prog 40 [.c (.sl 2 (now.map Atr.d)),.c (.sl 2 (names.map Atr.d))] [] fun r os=>r = .c (.v (.bool (fitsB now names)))∧os=[]:=by
 refine pcalls_of Tryz.func40 rfl (by simp [Tryz.ntmps40]) ?_
 rw [Tryz.ntmps40,Tryz.results40]
 push_cast [iO,tN]
 have cB:CutB 11 [13,14,15]:=trivial
 repeat' (first|((first|refine pC ?_|refine pQC ?_|refine pU ?_);push_cast [iO,tN])|(refine pif (fun h=>?_) (fun h=>?_)<;>first|exact pN h|push_cast [iO,tN]))
 (apply pwp_loop3 (α:=Nat) 11 [13,14,15] (fun k=>[(15,.c (.v (.int .i64 k)))]) (fun k=>[(0,.map none false (setE (keys (names.take k)))),(1,.map none false (setE (vals (names.take k))))]) (fun k=>k≤names.length∧∀ j,j < k → fitAt now names j=true) (fun k=>names.length - k) (0);(focus ((try push_cast [iO,tN]);rfl));(focus exact ⟨Nat.zero_le _,fun j hj=>by omega⟩);(focus ((refine weak_fg ?_;try push_cast [iO,tN]);(try (exact ⟨rfl,rfl⟩)))))
 rintro k ⟨hk,hpre⟩
 push_cast [iO,tN]
 by_cases hlt:k < names.length
 case neg =>
  have hk2:k=names.length:=by omega
  subst hk2
  rw [List.take_length]
  have hall:((List.range names.length).all fun i=>fitAt now names i)=true:=List.all_eq_true.2 fun j hj=>hpre j (List.mem_range.1 hj)
  have hfb:fitsB now names = !(now.any fun x=>inM x.value (vals names) && !inM x.name (keys names)):=by unfold fitsB;rw [hall,Bool.true_and]
  have hc:=containsFuncB_pure now (by omega) 79 [0,1] (fitO (vals names) (keys names)) (fun x=>inM x.value (vals names) && !inM x.name (keys names)) ⟨by kernel_rfl,fun x _=>fits1_pure (vals names) (keys names) x⟩
  repeat' (first |  ((refine plc [3,2,1,0] (hc) ?_ ?_;push_cast [iO,tN];rintro r os ⟨rfl,rfl⟩;push_cast [iO,tN]))  | ((first|refine pC ?_|refine pQC ?_|refine pU ?_);push_cast [iO,tN])|(refine pif (fun h=>?_) (fun h=>?_)<;>first|exact pN h|push_cast [iO,tN]))
  (refine retK_of [] ?_;push_cast [iO,tN,hfb])
 obtain ⟨a,ha⟩:∃ a,names.getD k default=a:=⟨_,rfl⟩
 have ham:a ∈ names:=by rw [← ha,getD_lt names hlt];exact List.getElem_mem _
 have hg:=dget_pure now a.name (by omega)
 have hif:=iface_pure a.value (hz a ham)
 have hkp:=lk_set (keys (names.take k)) a.name
 have hvp:=lk_set (vals (names.take k)) a.value
 have hks:=keys_snoc names hlt
 have hvs:=vals_snoc names hlt
 rw [ha] at hks hvs
 have hat:fitAt now names k=((((valOf now a.name).isSome && !inM a.name (keys (names.take k))) && !inM a.value (vals (names.take k))) && ifaceS a.value):=by unfold fitAt;rw [ha]
 have hmk:=mput_set a.name (keys (names.take k))
 have hmv:=mput_set a.value (vals (names.take k))
 obtain ⟨K,hK⟩:∃ K,keys (names.take k)=K:=⟨_,rfl⟩
 obtain ⟨V,hV⟩:∃ V,vals (names.take k)=V:=⟨_,rfl⟩
 rw [hK] at hkp hks hat hmk ⊢
 rw [hV] at hvp hvs hat hmv ⊢
 cases h1:(valOf now a.name).isSome with
 | false =>
  rw [h1] at hg hat
  have hno:=fitsB_no hlt (hat.trans rfl)
  repeat' (first|((refine plc [] (hg) ?_ ?_;push_cast [iO,tN,ha];rintro r os ⟨rfl,rfl⟩;push_cast [iO,tN,ha]))|((first|refine pC ?_|refine pQC ?_|refine pU ?_);push_cast [iO,tN,ha])|(refine pif (fun h=>?_) (fun h=>?_)<;>first|exact pN h|push_cast [iO,tN,ha]))
  (refine retK_of [] ?_;push_cast [iO,tN,hno])
 | true =>
  rw [h1] at hg hat
  cases h2:inM a.name K with
  | true =>
   rw [h2] at hkp hat
   have hno:=fitsB_no hlt (hat.trans rfl)
   repeat' (first|((refine plc [] (hg) ?_ ?_;push_cast [iO,tN,ha,hkp];rintro r os ⟨rfl,rfl⟩;push_cast [iO,tN,ha,hkp]))|((first|refine pC ?_|refine pQC ?_|refine pU ?_);push_cast [iO,tN,ha,hkp])|(refine pif (fun h=>?_) (fun h=>?_)<;>first|exact pN h|push_cast [iO,tN,ha,hkp]))
   (refine retK_of [] ?_;push_cast [iO,tN,hno])
  | false =>
   rw [h2] at hkp hat
   cases h3:inM a.value V with
   | true =>
    rw [h3] at hvp hat
    have hno:=fitsB_no hlt (hat.trans rfl)
    repeat' (first|((refine plc [] (hg) ?_ ?_;push_cast [iO,tN,ha,hkp,hvp];rintro r os ⟨rfl,rfl⟩;push_cast [iO,tN,ha,hkp,hvp]))|((first|refine pC ?_|refine pQC ?_|refine pU ?_);push_cast [iO,tN,ha,hkp,hvp])|(refine pif (fun h=>?_) (fun h=>?_)<;>first|exact pN h|push_cast [iO,tN,ha,hkp,hvp]))
    (refine retK_of [] ?_;push_cast [iO,tN,hno])
   | false =>
    rw [h3] at hvp hat
    cases h4:ifaceS a.value with
    | false =>
     rw [h4] at hif hat
     have hno:=fitsB_no hlt (hat.trans rfl)
     repeat' (first|((refine plc [] (hg) ?_ ?_;push_cast [iO,tN,ha,hkp,hvp];rintro r os ⟨rfl,rfl⟩;push_cast [iO,tN,ha,hkp,hvp]))|((refine plc [] (hif) ?_ ?_;push_cast [iO,tN,ha,hkp,hvp];rintro r os ⟨rfl,rfl⟩;push_cast [iO,tN,ha,hkp,hvp]))|((first|refine pC ?_|refine pQC ?_|refine pU ?_);push_cast [iO,tN,ha,hkp,hvp])|(refine pif (fun h=>?_) (fun h=>?_)<;>first|exact pN h|push_cast [iO,tN,ha,hkp,hvp]))
     (refine retK_of [] ?_;push_cast [iO,tN,hno])
    | true =>
     rw [h4] at hif hat
     rw [addS_snoc h2] at hmk
     rw [addS_snoc h3] at hmv
     repeat' (first|((refine plc [] (hg) ?_ ?_;push_cast [iO,tN,ha,hkp,hvp];rintro r os ⟨rfl,rfl⟩;push_cast [iO,tN,ha,hkp,hvp]))|((refine plc [] (hif) ?_ ?_;push_cast [iO,tN,ha,hkp,hvp];rintro r os ⟨rfl,rfl⟩;push_cast [iO,tN,ha,hkp,hvp]))|((refine pwp_cut 11 [13,14,15] ?_;apply pwp_drawn_to;(focus kernel_rfl);(focus (simp only [List.length_cons,List.length_nil,Nat.reduceAdd];(repeat' first|((first|refine pah 1 ?_|refine pah 4 ?_);push_cast [iO,tN,  ha,hmk,hmv])|(refine pad ?_;first|with_reducible exact weak_cutS 11 [13,14,15] _|(refine weak_fg ?_;push_cast [iO,tN,  ha,hmk,hmv]))|((first|refine pas [0] ?_|refine pas [2] ?_|refine pas [3] ?_|refine pas [5] ?_|refine pas [6] ?_|refine pas [7] ?_);push_cast [iO,tN,  ha,hmk,hmv])|((first|refine pas [0,2] ?_|refine pas [0,3] ?_|refine pas [0,5] ?_|refine pas [2,3] ?_|refine pas [2,5] ?_|refine pas [3,5] ?_|refine pas [3,6] ?_|refine pas [5,6] ?_);push_cast [iO,tN,  ha,hmk,hmv];refine ⟨?_,?_⟩)|((first|refine pas [0,2,3] ?_|refine pas [0,2,5] ?_|refine pas [0,3,5] ?_|refine pas [2,3,5] ?_|refine pas [3,5,6] ?_);push_cast [iO,tN,  ha,hmk,hmv];refine ⟨?_,?_,?_⟩)|((first|refine pas [0,2,3,5] ?_);push_cast [iO,tN,  ha,hmk,hmv];refine ⟨?_,?_,?_,?_⟩));done));push_cast [iO,tN,  ha,hmk,hmv]))|((first|refine pC ?_|refine pQC ?_|refine pU ?_);push_cast [iO,tN,ha,hkp,hvp])|(refine pif (fun h=>?_) (fun h=>?_)<;>first|exact pN h|push_cast [iO,tN,ha,hkp,hvp]))
     refine ⟨k+1,⟨by omega,fun j hj=>?_⟩,by (refine weak_fg ?_;push_cast [iO,tN,hks,hvs]),by omega⟩
     by_cases e:j=k
     ·rw [e,hat];rfl
     ·exact hpre j (by omega)
set_option maxRecDepth 20000
def SetIn (l:List Atr) (n v:ByteArray) (o:List Atr):Prop:=∀ a ∈ o,a ∈ l∨a=⟨n,v⟩
theorem SetIn.nil {l:List Atr} {n v:ByteArray}:SetIn l n v []:=fun a ha=>by simp at ha
theorem SetIn.snoc {l:List Atr} {n v:ByteArray} {o:List Atr} (h:SetIn l n v o) {x:Atr} (hx:x ∈ l∨x=⟨n,v⟩):SetIn l n v (o++[x]):=fun a ha=>by
 rcases List.mem_append.1 ha with ha|ha
 ·exact h a ha
 ·rw [List.mem_singleton] at ha;rw [ha];exact hx
theorem getD_mem {α:Type} [Inhabited α] {l:List α} {k:Nat} (h:k < l.length):l.getD k default ∈ l:=by rw [getD_lt l h];exact List.getElem_mem _
set_option maxHeartbeats 2000000 in
theorem rset_ex (l:List Atr) (n v:ByteArray) (hb:l.length≤1000000) :
  PCalls Tryz.prog 87 [.c (.sl 2 (l.map Atr.d)),.c (.v (.string n)),.c (.v (.string v))] [] fun r os=>∃ o:List Atr,(o.length≤l.length+1∧SetIn l n v o)∧r = .c (.sl 2 (o.map Atr.d))∧os=[]:=by
 refine pcalls_of Tryz.func87 rfl (by simp [Tryz.ntmps87]) ?_
 rw [Tryz.ntmps87,Tryz.results87]
 push_cast [iO,tN]
 have cB:CutB 10 []:=trivial
 repeat' (first|((first|refine pC ?_|refine pQC ?_|refine pU ?_);push_cast [iO,tN])|(refine pif (fun h=>?_) (fun h=>?_)<;>first|exact pN h|push_cast [iO,tN]))
 refine pwp_weak (weak_adopt 7 33 2 (by omega) (by push_cast [iO,tN])) ?_
 push_cast [iO,tN]
 (apply pwp_loop3 (α:=Nat × List Atr × Bool) 10 [] (fun x=>[(9,.c (.v (.int .i64 x.1))),(8,.c (.v (.bool x.2.2))),(7,.c (.own 0 x.2.1.length))]) (fun x=>[(0,.arr 33 2 (x.2.1.map Atr.d))]) (fun x=>x.1≤l.length∧(x.2.2=false → x.2.1.length≤x.1)∧x.2.1.length≤x.1+1∧SetIn l n v x.2.1) (fun x=>l.length - x.1) ((0,[],decide (v=⟨#[]⟩)));(focus ((try push_cast [iO,tN]);rfl));(focus exact ⟨Nat.zero_le _,fun _=>Nat.le_refl _,Nat.zero_le _,SetIn.nil⟩);(focus ((refine weak_fg ?_;try push_cast [iO,tN]))))
 rintro ⟨k,o,done⟩ ⟨hk,h1,h2,h3⟩
 simp only at hk h1 h2 h3 ⊢
 push_cast [iO,tN]
 by_cases hlt:k < l.length
 ·have hm:=getD_mem hlt
  cases done
  ·have h1':=h1 rfl
   have hn1:(o++[(⟨n,v⟩:Atr)]).map Atr.d=o.map Atr.d++[[.v (.string n),.v (.string v)]]:=by simp [Atr.d]
   cases hc:bless (l.getD k default).name n
   ·by_cases hn:(l.getD k default).name=n
    ·rw [hn] at hc
     repeat' (first|((first|refine pC ?_|refine pQC ?_|refine pU ?_);push_cast [iO,tN,hc,hn])|(refine pif (fun h=>?_) (fun h=>?_)<;>first|exact pN h|push_cast [iO,tN,hc,hn]))
     exact ⟨(k+1,o++[⟨n,v⟩],true),⟨by simp only;omega,by simp,by simp only [List.length_append,List.length_singleton];omega,h3.snoc (.inr rfl)⟩,by (refine weak_fg ?_;push_cast [iO,tN]),by simp only;omega⟩
    ·repeat' (first|((first|refine pC ?_|refine pQC ?_|refine pU ?_);push_cast [iO,tN,hc,hn])|(refine pif (fun h=>?_) (fun h=>?_)<;>first|exact pN h|push_cast [iO,tN,hc,hn]))
     exact ⟨(k+1,o++[⟨n,v⟩]++[l.getD k default],true),⟨by simp only;omega,by simp,by simp only [List.length_append,List.length_singleton];omega,(h3.snoc (.inr rfl)).snoc (.inl hm)⟩,by (refine weak_fg ?_;push_cast [iO,tN]),by simp only;omega⟩
   ·by_cases hn:(l.getD k default).name=n
    ·rw [hn] at hc
     exact absurd (bless_ne hc) (fun h=>h rfl)
    ·repeat' (first|((first|refine pC ?_|refine pQC ?_|refine pU ?_);push_cast [iO,tN,hc,hn])|(refine pif (fun h=>?_) (fun h=>?_)<;>first|exact pN h|push_cast [iO,tN,hc,hn]))
     exact ⟨(k+1,o++[l.getD k default],false),⟨by simp only;omega,fun _=>by simp only [List.length_append,List.length_singleton];omega,by simp only [List.length_append,List.length_singleton];omega,h3.snoc (.inl hm)⟩,by (refine weak_fg ?_;push_cast [iO,tN]),by simp only;omega⟩
  ·by_cases hn:(l.getD k default).name=n
   ·repeat' (first|((first|refine pC ?_|refine pQC ?_|refine pU ?_);push_cast [iO,tN,hn])|(refine pif (fun h=>?_) (fun h=>?_)<;>first|exact pN h|push_cast [iO,tN,hn]))
    exact ⟨(k+1,o,true),⟨by simp only;omega,by simp,by simp only;omega,h3⟩,by (refine weak_fg ?_;push_cast [iO,tN]),by simp only;omega⟩
   ·repeat' (first|((first|refine pC ?_|refine pQC ?_|refine pU ?_);push_cast [iO,tN,hn])|(refine pif (fun h=>?_) (fun h=>?_)<;>first|exact pN h|push_cast [iO,tN,hn]))
    exact ⟨(k+1,o++[l.getD k default],true),⟨by simp only;omega,by simp,by simp only [List.length_append,List.length_singleton];omega,h3.snoc (.inl hm)⟩,by (refine weak_fg ?_;push_cast [iO,tN]),by simp only;omega⟩
 ·have hk2:k=l.length:=by omega
  cases done
  ·have h1':=h1 rfl
   repeat' (first|((first|refine pC ?_|refine pQC ?_|refine pU ?_);push_cast [iO,tN])|(refine pif (fun h=>?_) (fun h=>?_)<;>first|exact pN h|push_cast [iO,tN]))
   (refine retK_of [] ?_;push_cast [iO,tN])
   exact ⟨_,_,leP_refl _,leOs_refl _,o++[⟨n,v⟩],⟨by simp only [List.length_append,List.length_singleton];omega,h3.snoc (.inr rfl)⟩,by push_cast [iO,tN],rfl⟩
  ·repeat' (first|((first|refine pC ?_|refine pQC ?_|refine pU ?_);push_cast [iO,tN])|(refine pif (fun h=>?_) (fun h=>?_)<;>first|exact pN h|push_cast [iO,tN]))
   (refine retK_of [] ?_;push_cast [iO,tN])
   exact ⟨_,_,leP_refl _,leOs_refl _,o,⟨by omega,h3⟩,by push_cast [iO,tN],rfl⟩
def ShortA (o:List Atr):Prop:=∀ a ∈ o,a.name.size≤100∧a.value.size≤100
theorem ShortA.nil:ShortA []:=fun a ha=>by simp at ha
theorem ShortA.set {l o:List Atr} {n v:ByteArray} (hl:ShortA l) (ho:SetIn l n v o) (hn:n.size≤100) (hv:v.size≤100):ShortA o:=fun a ha=>by
 rcases ho a ha with h|h
 ·exact hl a h
 ·rw [h];exact ⟨hn,hv⟩
set_option maxHeartbeats 2000000 in
theorem wattrs_ex (L:List Int) (k:Nat) (hk:k < 100000) (hL:∀ x ∈ L,-9223372036854775808≤x∧x≤9223372036854775807) (hLl:L.length≤9223372036854775807) :
  PCalls Tryz.prog 86 [.c (.ptr 0 0)] [tape L k] fun r os=>∃ (o:List Atr) (k':Nat),(o.length≤3∧ShortA o)∧k'≤k+7∧r = .c (.sl 2 (o.map Atr.d))∧os=[tape L k']:=by
 refine pcalls_of Tryz.func86 rfl (by simp [Tryz.ntmps86]) ?_
 rw [Tryz.ntmps86,Tryz.results86]
 push_cast [iO,tN]
 have cB:CutB 5 []:=trivial
 repeat' (first |  ((refine plc [0] (next_ex L k 4 (by omega) (by decide) (by decide) hL hLl) ?_ ?_;push_cast [iO,tN];rintro r os ⟨v,⟨va,vb⟩,rfl,rfl⟩;push_cast [iO,tN]))  | ((first|refine pC ?_|refine pQC ?_|refine pU ?_);push_cast [iO,tN])|(refine pif (fun h=>?_) (fun h=>?_)<;>first|exact pN h|push_cast [iO,tN]))
 obtain ⟨m,rfl⟩:∃ m:Nat,v=(m:Int):=⟨v.toNat,by omega⟩
 (apply pwp_loop3 (α:=Nat × List Atr × Nat) 5 [] (fun x=>[(4,.c (.v (.int .i64 x.1))),(3,.c (.sl 2 (x.2.1.map Atr.d)))]) (fun x=>[(0,tape L x.2.2)]) (fun x=>x.2.1.length+x.1≤3∧ShortA x.2.1∧x.2.2+2 * x.1≤k+7) (fun x=>x.1) ((m,[],k+1));(focus ((try push_cast [iO,tN]);rfl));(focus exact ⟨by simp only [List.length_nil];omega,ShortA.nil,by simp only;omega⟩);(focus ((refine weak_fg ?_;try push_cast [iO,tN]))))
 rintro ⟨j,o,q⟩ ⟨h1,h2,h3⟩
 simp only at h1 h2 h3
 push_cast [iO,tN]
 by_cases hlt:0 < j
 case neg =>
  have hj:j=0:=by omega
  subst hj
  repeat' (first|((first|refine pC ?_|refine pQC ?_|refine pU ?_);push_cast [iO,tN])|(refine pif (fun h=>?_) (fun h=>?_)<;>first|exact pN h|push_cast [iO,tN]))
  (refine retK_of [0] ?_;push_cast [iO,tN])
  exact ⟨_,_,leP_refl _,leOs_refl _,o,q,⟨by omega,h2⟩,by omega,rfl,rfl⟩
 have h4:(0:Int) < (j:Int):=by omega
 have h5:(j:Int) - 1=((j - 1:Nat):Int):=by omega
 have o1:=one_ex L q [⟨#[115,105,122,101]⟩,⟨#[118,101,110,100,111,114]⟩,⟨#[97,100,100,114,101,115,115]⟩,⟨#[105,110,100,101,120]⟩,⟨#[115,108,111,116]⟩] (by omega) (by decide) (by decide) hL hLl
 have o2:=one_ex L (q+1) [⟨#[49]⟩,⟨#[50]⟩,⟨#[97,99,109,101]⟩,⟨#[97,97,58,98,98]⟩] (by omega) (by decide) (by decide) hL hLl
 repeat' (first|((refine plc [0] (o1) ?_ ?_;push_cast [iO,tN,h4];rintro r os ⟨n,nm,rfl,rfl⟩;push_cast [iO,tN,h4]))|((refine plc [0] (o2) ?_ ?_;push_cast [iO,tN,h4];rintro r os ⟨v,vm,rfl,rfl⟩;push_cast [iO,tN,h4]))|((refine plc [] (rset_ex o n v (by omega)) ?_ ?_;push_cast [iO,tN,h4];rintro r os ⟨o',⟨s1,s2⟩,rfl,rfl⟩;push_cast [iO,tN,h4]))|((first|refine pC ?_|refine pQC ?_|refine pU ?_);push_cast [iO,tN,h4])|(refine pif (fun h=>?_) (fun h=>?_)<;>first|exact pN h|push_cast [iO,tN,h4]))
 exact ⟨(j - 1,o',q+1+1),⟨by simp only;omega,h2.set s2 (mem_fit (by decide) nm) (mem_fit (by decide) vm),by simp only;omega⟩,by rw [← h5];(refine weak_fg ?_;push_cast [iO,tN]),by simp only;omega⟩
theorem wcontents_pure:PCalls Tryz.prog 88 [] [] fun r os=>(∃ l:List ByteArray,l.length=9∧(∀ s ∈ l,s.size≤100)∧r = .c (.sl 1 (l.map strD)))∧os=[]:=by
 refine pcalls_of Tryz.func88 rfl (by simp [Tryz.ntmps88]) ?_
 rw [Tryz.ntmps88,Tryz.results88]
 push_cast [iO,tN]
 repeat' (first|((first|refine pG ?_|refine pQ ?_|refine pU ?_);push_cast [iO,tN])|(refine pif (fun h=>?_) (fun h=>?_)<;>first|exact pN h|push_cast [iO,tN]))
 (refine retK_of [] ?_;push_cast [iO,tN])
 have e:∀ (a0 a1 a2 a3 a4 a5 a6 a7 a8:ByteArray),([a0,a1,a2,a3,a4,a5,a6,a7,a8].all fun s=>decide (s.size≤100))=true →
   ∃ l:List ByteArray,l.length=9∧(∀ s ∈ l,s.size≤100)∧PV.c (.sl 1 [[D.v (.string a0)],[D.v (.string a1)],[D.v (.string a2)],[D.v (.string a3)],[D.v (.string a4)],[D.v (.string a5)],[D.v (.string a6)],[D.v (.string a7)],[D.v (.string a8)]]) = .c (.sl 1 (l.map strD)) :=
  fun a0 a1 a2 a3 a4 a5 a6 a7 a8 h=>⟨[a0,a1,a2,a3,a4,a5,a6,a7,a8],rfl,fun s hs=>mem_fit h hs,rfl⟩
 exact ⟨_,_,leP_refl _,leOs_refl _,e _ _ _ _ _ _ _ _ _ (by decide),rfl⟩
end Go.Proofs.YthconflkbeipoaaGreatDoor
