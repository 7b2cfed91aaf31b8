/- What the program computes, and the plain laws of it, part 31. -/
import Derived.Test.YtmjffgienmcabaaGreatDoorS22
namespace Go.Proofs.YtmjffgienmcabaaGreatDoor
attribute [local irreducible] PL QL PWPr PCalls Weak RetK Kontr PA
open Go.RowKit
open IntWalk renaming iteOmega → iO, toNatUp → tN
set_option linter.unusedVariables false
set_option linter.unusedSimpArgs false
set_option maxRecDepth 20000
def SetIn (l:List Atr) (n v:ByteArray) (o:List Atr):Prop:=∀ a ∈ o,a ∈ l∨a=⟨n,v⟩
theorem SetIn.nil {l:List Atr} {n v:ByteArray}:SetIn l n v []:=fun a ha=>by simp at ha
theorem SetIn.snoc {l:List Atr} {n v:ByteArray} {o:List Atr} (h:SetIn l n v o) {x:Atr} (hx:x ∈ l∨x=⟨n,v⟩):SetIn l n v (o++[x]):=fun a ha=>by
 rcases List.mem_append.1 ha with ha|ha
 ·exact h a ha
 ·rw [List.mem_singleton] at ha;rw [ha];exact hx
theorem getD_mem {α:Type} [Inhabited α] {l:List α} {k:Nat} (h:k < l.length):l.getD k default ∈ l:=by rw [getD_lt l h];exact List.getElem_mem _
set_option maxHeartbeats 2000000 in
theorem rset_ex (l:List Atr) (n v:ByteArray) (hb:l.length≤1000000) :
  PCalls Tryz.prog 44 [.c (.sl 2 (l.map Atr.d)),.c (.v (.string n)),.c (.v (.string v))] [] fun r os=>∃ o:List Atr,(o.length≤l.length+1∧SetIn l n v o)∧r = .c (.sl 2 (o.map Atr.d))∧os=[]:=by
 refine pcalls_of Tryz.func44 rfl (by simp [Tryz.ntmps44]) ?_
 rw [Tryz.ntmps44,Tryz.results44]
 push_cast [iO,tN]
 have cB:CutB 10 []:=trivial
 repeat' (first|((first|refine pC ?_|refine pQC ?_|refine pU ?_);push_cast [iO,tN])|(refine pif (fun h=>?_) (fun h=>?_)<;>first|exact pN h|push_cast [iO,tN]))
 refine pwp_weak (weak_adopt 7 57 2 (by omega) (by push_cast [iO,tN])) ?_
 push_cast [iO,tN]
 (apply pwp_loop3 (α:=Nat × List Atr × Bool) 10 [] (fun x=>[(9,.c (.v (.int .i64 x.1))),(8,.c (.v (.bool x.2.2))),(7,.c (.own 0 x.2.1.length))]) (fun x=>[(0,.arr 57 2 (x.2.1.map Atr.d))]) (fun x=>x.1≤l.length∧(x.2.2=false → x.2.1.length≤x.1)∧x.2.1.length≤x.1+1∧SetIn l n v x.2.1) (fun x=>l.length - x.1) ((0,[],decide (v=⟨#[]⟩)));(focus ((try push_cast [iO,tN]);rfl));(focus exact ⟨Nat.zero_le _,fun _=>Nat.le_refl _,Nat.zero_le _,SetIn.nil⟩);(focus ((refine weak_fg ?_;try push_cast [iO,tN]))))
 rintro ⟨k,o,done⟩ ⟨hk,h1,h2,h3⟩
 simp only at hk h1 h2 h3 ⊢
 push_cast [iO,tN]
 by_cases hlt:k < l.length
 ·have hm:=getD_mem hlt
  cases done
  ·have h1':=h1 rfl
   have hn1:(o++[(⟨n,v⟩:Atr)]).map Atr.d=o.map Atr.d++[[.v (.string n),.v (.string v)]]:=by simp [Atr.d]
   cases hc:bless (l.getD k default).name n
   ·by_cases hn:(l.getD k default).name=n
    ·rw [hn] at hc
     repeat' (first|((first|refine pC ?_|refine pQC ?_|refine pU ?_);push_cast [iO,tN,hc,hn])|(refine pif (fun h=>?_) (fun h=>?_)<;>first|exact pN h|push_cast [iO,tN,hc,hn]))
     exact ⟨(k+1,o++[⟨n,v⟩],true),⟨by simp only;omega,by simp,by simp only [List.length_append,List.length_singleton];omega,h3.snoc (.inr rfl)⟩,by (refine weak_fg ?_;push_cast [iO,tN]),by simp only;omega⟩
    ·repeat' (first|((first|refine pC ?_|refine pQC ?_|refine pU ?_);push_cast [iO,tN,hc,hn])|(refine pif (fun h=>?_) (fun h=>?_)<;>first|exact pN h|push_cast [iO,tN,hc,hn]))
     exact ⟨(k+1,o++[⟨n,v⟩]++[l.getD k default],true),⟨by simp only;omega,by simp,by simp only [List.length_append,List.length_singleton];omega,(h3.snoc (.inr rfl)).snoc (.inl hm)⟩,by (refine weak_fg ?_;push_cast [iO,tN]),by simp only;omega⟩
   ·by_cases hn:(l.getD k default).name=n
    ·rw [hn] at hc
     exact absurd (bless_ne hc) (fun h=>h rfl)
    ·repeat' (first|((first|refine pC ?_|refine pQC ?_|refine pU ?_);push_cast [iO,tN,hc,hn])|(refine pif (fun h=>?_) (fun h=>?_)<;>first|exact pN h|push_cast [iO,tN,hc,hn]))
     exact ⟨(k+1,o++[l.getD k default],false),⟨by simp only;omega,fun _=>by simp only [List.length_append,List.length_singleton];omega,by simp only [List.length_append,List.length_singleton];omega,h3.snoc (.inl hm)⟩,by (refine weak_fg ?_;push_cast [iO,tN]),by simp only;omega⟩
  ·by_cases hn:(l.getD k default).name=n
   ·repeat' (first|((first|refine pC ?_|refine pQC ?_|refine pU ?_);push_cast [iO,tN,hn])|(refine pif (fun h=>?_) (fun h=>?_)<;>first|exact pN h|push_cast [iO,tN,hn]))
    exact ⟨(k+1,o,true),⟨by simp only;omega,by simp,by simp only;omega,h3⟩,by (refine weak_fg ?_;push_cast [iO,tN]),by simp only;omega⟩
   ·repeat' (first|((first|refine pC ?_|refine pQC ?_|refine pU ?_);push_cast [iO,tN,hn])|(refine pif (fun h=>?_) (fun h=>?_)<;>first|exact pN h|push_cast [iO,tN,hn]))
    exact ⟨(k+1,o++[l.getD k default],true),⟨by simp only;omega,by simp,by simp only [List.length_append,List.length_singleton];omega,h3.snoc (.inl hm)⟩,by (refine weak_fg ?_;push_cast [iO,tN]),by simp only;omega⟩
 ·have hk2:k=l.length:=by omega
  cases done
  ·have h1':=h1 rfl
   repeat' (first|((first|refine pC ?_|refine pQC ?_|refine pU ?_);push_cast [iO,tN])|(refine pif (fun h=>?_) (fun h=>?_)<;>first|exact pN h|push_cast [iO,tN]))
   (refine retK_of [] ?_;push_cast [iO,tN])
   exact ⟨_,_,leP_refl _,leOs_refl _,o++[⟨n,v⟩],⟨by simp only [List.length_append,List.length_singleton];omega,h3.snoc (.inr rfl)⟩,by push_cast [iO,tN],rfl⟩
  ·repeat' (first|((first|refine pC ?_|refine pQC ?_|refine pU ?_);push_cast [iO,tN])|(refine pif (fun h=>?_) (fun h=>?_)<;>first|exact pN h|push_cast [iO,tN]))
   (refine retK_of [] ?_;push_cast [iO,tN])
   exact ⟨_,_,leP_refl _,leOs_refl _,o,⟨by omega,h3⟩,by push_cast [iO,tN],rfl⟩
def ShortA (o:List Atr):Prop:=∀ a ∈ o,a.name.size≤100∧a.value.size≤100
theorem ShortA.nil:ShortA []:=fun a ha=>by simp at ha
theorem ShortA.set {l o:List Atr} {n v:ByteArray} (hl:ShortA l) (ho:SetIn l n v o) (hn:n.size≤100) (hv:v.size≤100):ShortA o:=fun a ha=>by
 rcases ho a ha with h|h
 ·exact hl a h
 ·rw [h];exact ⟨hn,hv⟩
set_option maxHeartbeats 2000000 in
theorem wattrs_ex (L:List Int) (k:Nat) (hk:k < 100000) (hL:∀ x ∈ L,-9223372036854775808≤x∧x≤9223372036854775807) (hLl:L.length≤9223372036854775807) :
  PCalls Tryz.prog 43 [.c (.ptr 0 0)] [tape L k] fun r os=>∃ (o:List Atr) (k':Nat),(o.length≤3∧ShortA o)∧k'≤k+7∧r = .c (.sl 2 (o.map Atr.d))∧os=[tape L k']:=by
 refine pcalls_of Tryz.func43 rfl (by simp [Tryz.ntmps43]) ?_
 rw [Tryz.ntmps43,Tryz.results43]
 push_cast [iO,tN]
 have cB:CutB 5 []:=trivial
 repeat' (first |  ((refine plc [0] (next_ex L k 4 (by omega) (by decide) (by decide) hL hLl) ?_ ?_;push_cast [iO,tN];rintro r os ⟨v,⟨va,vb⟩,rfl,rfl⟩;push_cast [iO,tN]))  | ((first|refine pC ?_|refine pQC ?_|refine pU ?_);push_cast [iO,tN])|(refine pif (fun h=>?_) (fun h=>?_)<;>first|exact pN h|push_cast [iO,tN]))
 obtain ⟨m,rfl⟩:∃ m:Nat,v=(m:Int):=⟨v.toNat,by omega⟩
 (apply pwp_loop3 (α:=Nat × List Atr × Nat) 5 [] (fun x=>[(4,.c (.v (.int .i64 x.1))),(3,.c (.sl 2 (x.2.1.map Atr.d)))]) (fun x=>[(0,tape L x.2.2)]) (fun x=>x.2.1.length+x.1≤3∧ShortA x.2.1∧x.2.2+2 * x.1≤k+7) (fun x=>x.1) ((m,[],k+1));(focus ((try push_cast [iO,tN]);rfl));(focus exact ⟨by simp only [List.length_nil];omega,ShortA.nil,by simp only;omega⟩);(focus ((refine weak_fg ?_;try push_cast [iO,tN]))))
 rintro ⟨j,o,q⟩ ⟨h1,h2,h3⟩
 simp only at h1 h2 h3
 push_cast [iO,tN]
 by_cases hlt:0 < j
 case neg =>
  have hj:j=0:=by omega
  subst hj
  repeat' (first|((first|refine pC ?_|refine pQC ?_|refine pU ?_);push_cast [iO,tN])|(refine pif (fun h=>?_) (fun h=>?_)<;>first|exact pN h|push_cast [iO,tN]))
  (refine retK_of [0] ?_;push_cast [iO,tN])
  exact ⟨_,_,leP_refl _,leOs_refl _,o,q,⟨by omega,h2⟩,by omega,rfl,rfl⟩
 have h4:(0:Int) < (j:Int):=by omega
 have h5:(j:Int) - 1=((j - 1:Nat):Int):=by omega
 have o1:=one_ex L q [⟨#[115,105,122,101]⟩,⟨#[118,101,110,100,111,114]⟩,⟨#[97,100,100,114,101,115,115]⟩,⟨#[105,110,100,101,120]⟩,⟨#[115,108,111,116]⟩] (by omega) (by decide) (by decide) hL hLl
 have o2:=one_ex L (q+1) [⟨#[49]⟩,⟨#[50]⟩,⟨#[97,99,109,101]⟩,⟨#[97,97,58,98,98]⟩] (by omega) (by decide) (by decide) hL hLl
 repeat' (first|((refine plc [0] (o1) ?_ ?_;push_cast [iO,tN,h4];rintro r os ⟨n,nm,rfl,rfl⟩;push_cast [iO,tN,h4]))|((refine plc [0] (o2) ?_ ?_;push_cast [iO,tN,h4];rintro r os ⟨v,vm,rfl,rfl⟩;push_cast [iO,tN,h4]))|((refine plc [] (rset_ex o n v (by omega)) ?_ ?_;push_cast [iO,tN,h4];rintro r os ⟨o',⟨s1,s2⟩,rfl,rfl⟩;push_cast [iO,tN,h4]))|((first|refine pC ?_|refine pQC ?_|refine pU ?_);push_cast [iO,tN,h4])|(refine pif (fun h=>?_) (fun h=>?_)<;>first|exact pN h|push_cast [iO,tN,h4]))
 exact ⟨(j - 1,o',q+1+1),⟨by simp only;omega,h2.set s2 (mem_fit (by decide) nm) (mem_fit (by decide) vm),by simp only;omega⟩,by rw [← h5];(refine weak_fg ?_;push_cast [iO,tN]),by simp only;omega⟩
theorem wcontents_pure:PCalls Tryz.prog 45 [] [] fun r os=>(∃ l:List ByteArray,l.length=9∧(∀ s ∈ l,s.size≤100)∧r = .c (.sl 1 (l.map strD)))∧os=[]:=by
 refine pcalls_of Tryz.func45 rfl (by simp [Tryz.ntmps45]) ?_
 rw [Tryz.ntmps45,Tryz.results45]
 push_cast [iO,tN]
 repeat' (first|((first|refine pG ?_|refine pQ ?_|refine pU ?_);push_cast [iO,tN])|(refine pif (fun h=>?_) (fun h=>?_)<;>first|exact pN h|push_cast [iO,tN]))
 (refine retK_of [] ?_;push_cast [iO,tN])
 have e:∀ (a0 a1 a2 a3 a4 a5 a6 a7 a8:ByteArray),([a0,a1,a2,a3,a4,a5,a6,a7,a8].all fun s=>decide (s.size≤100))=true →
   ∃ l:List ByteArray,l.length=9∧(∀ s ∈ l,s.size≤100)∧PV.c (.sl 1 [[D.v (.string a0)],[D.v (.string a1)],[D.v (.string a2)],[D.v (.string a3)],[D.v (.string a4)],[D.v (.string a5)],[D.v (.string a6)],[D.v (.string a7)],[D.v (.string a8)]]) = .c (.sl 1 (l.map strD)) :=
  fun a0 a1 a2 a3 a4 a5 a6 a7 a8 h=>⟨[a0,a1,a2,a3,a4,a5,a6,a7,a8],rfl,fun s hs=>mem_fit h hs,rfl⟩
 exact ⟨_,_,leP_refl _,leOs_refl _,e _ _ _ _ _ _ _ _ _ (by decide),rfl⟩
end Go.Proofs.YtmjffgienmcabaaGreatDoor
