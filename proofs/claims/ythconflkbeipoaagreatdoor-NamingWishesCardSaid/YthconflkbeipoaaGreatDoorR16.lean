/- What the program computes, and the plain laws of it, part 16. -/
import Derived.WideKeyEntry
import Derived.Test.YthconflkbeipoaaGreatDoorR15
namespace Go.Proofs.YthconflkbeipoaaGreatDoor
open Go.RowKit
open IntWalk renaming iteOmega → iO, toNatUp → tN
set_option linter.unusedVariables false
set_option linter.unusedSimpArgs false
def swN (k j:Nat):Nat:=if j=k then k+1 else if j=k+1 then k else j
theorem swN_sw (k j:Nat):swN k (swN k j)=j:=by unfold swN;split<;>(try split)<;>(try split)<;>omega
theorem swN_lt {k j n:Nat} (hk:k+1 < n) (hj:j < n):swN k j < n:=by unfold swN;split<;>(try split)<;>omega
def E.sw (k:Nat):E → E
 | .own j n=>.own (swN k j) n
 | .ptr j f=>.ptr (swN k j) f
 | .orow j z i f=>.orow (swN k j) z i f
 | .fn f ds ks=>.fn f ds (ks.map (swN k))
 | .mp j=>.mp (swN k j)
 | .seg j z lo n=>.seg (swN k j) z lo n
 | e=>e
def PV.sw (k:Nat):PV → PV
 | .c e=>.c (e.sw k)
 | .agg cs=>.agg (cs.map (E.sw k))
 | .undef=>.undef
 | .two x y=>.two (x.sw k) (y.sw k)
 | .three x y z=>.three (x.sw k) (y.sw k) (z.sw k)
def swT (k:Nat):List (Nat × PV) → List (Nat × PV)
 | []=>[]
 | (i,q) :: t=>(i,q.sw k) :: swT k t
def Ob.sw (k:Nat):Ob → Ob
 | .box ty cs=>.box ty (cs.map (E.sw k))
 | .loop l L t=>.loop l L (swT k t)
 | o=>o
def S.sw (s:S) (k:Nat):S:=match s.o[k]?,s.o[k+1]? with
 | some a,some b=>⟨swT k s.t,setO (setO (s.o.map (Ob.sw k)) k (b.sw k)) (k+1) (a.sw k)⟩
 | _,_=>s
theorem look_sw (k i:Nat):∀ t:List (Nat × PV),look (swT k t) i=(look t i).map (PV.sw k)
 | []=>rfl
 | (d,q) :: t=>by
  simp only [swT,look]
  split
  ·rfl
  ·exact look_sw k i t
theorem weak_sw {N p:Nat} {s:S} (k:Nat) (hp:p≤k):Weak N p s (s.sw k):=by
 intro Γ a w hA
 unfold S.sw
 split
 case h_2=>exact ⟨Γ,hA,Grow.refl _ _ _⟩
 rename_i oa ob ha hb
 have hm:=hA.inv.m
 have hn:=hm.n
 have hkl:k+1 < s.o.length:=(List.getElem?_eq_some_iff.1 hb).1
 have hkn:k+1 < Γ.n:=by rw [hn];exact hkl
 obtain ⟨Γ',hΓ⟩:∃ Γ':G,Γ'=⟨Γ.n,fun j=>Γ.β (swN k j),fun j=>Γ.cap (swN k j),Γ.I⟩:=⟨_,rfl⟩
 have q1:Γ'.n=Γ.n:=by rw [hΓ]
 have q2:Γ'.I=Γ.I:=by rw [hΓ]
 have q3:∀ j,Γ'.β (swN k j)=Γ.β j:=fun j=>by rw [hΓ];simp only [swN_sw]
 have q4:∀ j,Γ'.cap (swN k j)=Γ.cap j:=fun j=>by rw [hΓ];simp only [swN_sw]
 have q5:∀ j,Γ'.β j=Γ.β (swN k j):=fun j=>by rw [hΓ]
 have q6:∀ j,Γ'.cap j=Γ.cap (swN k j):=fun j=>by rw [hΓ]
 have hE:∀ (e:E) (y:Value),RE w Γ e y → RE w Γ' (e.sw k) y:=by
  intro e y h
  cases e with
  | own j n =>
   refine ⟨by rw [q1];exact swN_lt hkn h.1,?_⟩
   have h2:=h.2
   unfold OwnRep at h2 ⊢
   rw [q3,q4];exact h2
  | ptr j f=>exact ⟨by rw [q1];exact swN_lt hkn h.1,by rw [q3];exact h.2⟩
  | orow j z i f=>exact ⟨by rw [q1];exact swN_lt hkn h.1,by rw [q3];exact h.2⟩
  | mp j=>exact ⟨by rw [q1];exact swN_lt hkn h.1,by rw [q3];exact h.2⟩
  | seg j z lo n =>
   refine ⟨by rw [q1];exact swN_lt hkn h.1,?_⟩
   have h2:=h.2
   unfold SegRep at h2 ⊢
   rw [q3,q4];exact h2
  | fn f ds ks =>
   obtain ⟨xs,h1,h2,h3⟩:=h
   refine ⟨xs,?_,by rw [q2];exact h2,fun j hj=>?_⟩
   ·rw [h1,List.map_map]
    congr 1
    exact List.map_congr_left fun j _=>by simp only [Function.comp,keyVal,q3]
   ·obtain ⟨i,hi,rfl⟩:=List.mem_map.1 hj
    rw [q1];exact swN_lt hkn (h3 i hi)
  | v x=>exact h
  | sl z l=>unfold E.sw RE;rw [q2];exact h
  | full z l=>unfold E.sw RE;rw [q2];exact h
  | row cs=>unfold E.sw RE;rw [q2];exact h
  | any=>exact h
 have hEs:∀ {cs:List E} {ys:List Value},All2 (RE w Γ) cs ys → All2 (RE w Γ') (cs.map (E.sw k)) ys:=fun h=>All2.map_l.2 (h.mono hE)
 have hP:∀ (q:PV) (y:Value),RP w Γ q y → RP w Γ' (q.sw k) y:=by
  intro q
  induction q with
  | c e=>intro y h;exact hE e y h
  | agg cs=>rintro y ⟨xs,h1,h2⟩;exact ⟨xs,h1,hEs h2⟩
  | undef=>intro y h;exact h
  | two x z ih1 ih2=>rintro y ⟨u,v,h1,h2,h3⟩;exact ⟨u,v,h1,ih1 u h2,ih2 v h3⟩
  | three x z t ih1 ih2 ih3=>rintro y ⟨u,v,r,h1,h2,h3,h4⟩;exact ⟨u,v,r,h1,ih1 u h2,ih2 v h3,ih3 r h4⟩
 have hO:∀ (j:Nat) (o:Ob),RO w Γ j o → RO w Γ' (swN k j) (o.sw k):=by
  intro j o h0
  cases o with
  | box ty cs =>
   obtain ⟨j1,xs,j2,j3,j6⟩:=h0
   exact ⟨by rw [q4];exact j1,xs,by rw [q3];exact j2,hEs j3,by unfold Room;rw [q4];exact j6⟩
  | arr el' sz' rows' =>
   obtain ⟨j1,j2,j3,j4⟩:=h0
   refine ⟨j1,j2,by rw [q4];exact j3,fun hc=>?_⟩
   rw [q4] at hc ⊢
   obtain ⟨cur,m1,m2,m3,m4,m5⟩:=j4 hc
   exact ⟨cur,by rw [q3];exact m1,m2,m3,m4,by rw [q2];exact m5⟩
  | map kk ag es =>
   obtain ⟨j1,ms,ck,j2,j3⟩:=h0
   exact ⟨by rw [q4];exact j1,ms,ck,by rw [q3];exact j2,by rw [q2];exact j3⟩
  | loop l L t =>
   obtain ⟨j1,j2,tm,j3,j4,j5⟩:=h0
   refine ⟨by rw [q4];exact j1,by rw [q3];exact j2,tm,j3,j4,fun i q hq=>?_⟩
   rw [look_sw] at hq
   obtain ⟨q0,hq0,rfl⟩:=Option.map_eq_some_iff.1 hq
   obtain ⟨i1,i2⟩:=j5 i q0 hq0
   exact ⟨i1,hP q0 _ i2⟩
 have hsk:swN k k=k+1:=by unfold swN;simp
 have hsk1:swN k (k+1)=k:=by unfold swN;simp
 refine ⟨Γ',⟨⟨hA.inv.size,hA.inv.defers,fun i q hq=>?_,⟨by rw [q1,hn];simp [setO],fun j o ho=>?_,fun j j' h1 h2 h3 h4 h5=>?_,fun j h1 h2=>?_,fun b hb=>?_,⟨hm.pin.1,fun b hb=>by rw [q2];exact hm.pin.2 b hb⟩⟩⟩,by rw [q1];exact hA.le⟩,⟨Ext.refl _ _,fun b hb=>by rw [q2];exact hb,fun j h1 h2=>?_,fun b hb=>?_,fun j hj=>?_⟩⟩
 ·simp only [S.get] at hq
  rw [look_sw] at hq
  obtain ⟨q0,hq0,rfl⟩:=Option.map_eq_some_iff.1 hq
  obtain ⟨i1,i2⟩:=hA.inv.t i q0 hq0
  exact ⟨i1,hP q0 _ i2⟩
 ·simp only [setO] at ho
  by_cases e1:k+1=j
  ·subst e1
   rw [List.getElem?_set_self (by simp;exact hkl)] at ho
   cases ho
   have:=hO k oa (hm.ob k oa ha)
   rwa [hsk] at this
  rw [List.getElem?_set_ne e1] at ho
  by_cases e2:k=j
  ·subst e2
   rw [List.getElem?_set_self (by simp;omega)] at ho
   cases ho
   have:=hO (k+1) ob (hm.ob (k+1) ob hb)
   rwa [hsk1] at this
  rw [List.getElem?_set_ne e2,List.getElem?_map] at ho
  obtain ⟨o0,ho0,rfl⟩:=Option.map_eq_some_iff.1 ho
  have:=hO j o0 (hm.ob j o0 ho0)
  have e3:swN k j=j:=by unfold swN;rw [if_neg (by omega),if_neg (by omega)]
  rwa [e3] at this
 ·rw [q1] at h1 h2
  rw [q6] at h3 h4
  rw [q5,q5] at h5
  have:=hm.sep _ _ (swN_lt hkn h1) (swN_lt hkn h2) h3 h4 h5
  have h6:=congrArg (swN k) this
  rwa [swN_sw,swN_sw] at h6
 ·rw [q1] at h1
  rw [q6] at h2
  rw [q5,q2]
  exact hm.off _ (swN_lt hkn h1) h2
 ·rw [q2] at hb;exact hm.lt b hb
 ·rw [q1] at h1
  rw [q6] at h2
  exact .inl ⟨swN k j,swN_lt hkn h1,h2,(q5 j).symm⟩
 ·rw [q2] at hb;exact .inl hb
 ·have e3:swN k j=j:=by unfold swN;rw [if_neg (by omega),if_neg (by omega)]
  rw [q5,q6,e3];exact ⟨rfl,rfl⟩
attribute [push_cast] S.sw E.sw PV.sw Ob.sw swT swN
end Go.Proofs.YthconflkbeipoaaGreatDoor
namespace Go.Proofs.YthconflkbeipoaaGreatDoor
attribute [local irreducible] PL QL PWPr PCalls Weak RetK Kontr PA
open Go.RowKit
open IntWalk renaming iteOmega → iO, toNatUp → tN
set_option linter.unusedVariables false
set_option linter.unusedSimpArgs false
set_option maxRecDepth 20000
def SetIn (l:List Atr) (n v:ByteArray) (o:List Atr):Prop:=∀ a ∈ o,a ∈ l∨a=⟨n,v⟩
theorem SetIn.nil {l:List Atr} {n v:ByteArray}:SetIn l n v []:=fun a ha=>by simp at ha
theorem SetIn.snoc {l:List Atr} {n v:ByteArray} {o:List Atr} (h:SetIn l n v o) {x:Atr} (hx:x ∈ l∨x=⟨n,v⟩):SetIn l n v (o++[x]):=fun a ha=>by
 rcases List.mem_append.1 ha with ha|ha
 ·exact h a ha
 ·rw [List.mem_singleton] at ha;rw [ha];exact hx
theorem getD_mem {α:Type} [Inhabited α] {l:List α} {k:Nat} (h:k < l.length):l.getD k default ∈ l:=by rw [getD_lt l h];exact List.getElem_mem _
set_option maxHeartbeats 2000000 in
theorem rset_ex (l:List Atr) (n v:ByteArray) (hb:l.length≤1000000) :
  PCalls Tryz.prog 87 [.c (.sl 2 (l.map Atr.d)),.c (.v (.string n)),.c (.v (.string v))] [] fun r os=>∃ o:List Atr,(o.length≤l.length+1∧SetIn l n v o)∧r = .c (.sl 2 (o.map Atr.d))∧os=[]:=by
 refine pcalls_of Tryz.func87 rfl (by simp [Tryz.ntmps87]) ?_
 rw [Tryz.ntmps87,Tryz.results87]
 push_cast [iO,tN]
 have cB:CutB 10 []:=trivial
 repeat' (first|((first|refine pC ?_|refine pQC ?_|refine pU ?_);push_cast [iO,tN])|(refine pif (fun h=>?_) (fun h=>?_)<;>first|exact pN h|push_cast [iO,tN]))
 refine pwp_weak (weak_adopt 7 33 2 (by omega) (by push_cast [iO,tN])) ?_
 push_cast [iO,tN]
 (apply pwp_loop3 (α:=Nat × List Atr × Bool) 10 [] (fun x=>[(9,.c (.v (.int .i64 x.1))),(8,.c (.v (.bool x.2.2))),(7,.c (.own 0 x.2.1.length))]) (fun x=>[(0,.arr 33 2 (x.2.1.map Atr.d))]) (fun x=>x.1≤l.length∧(x.2.2=false → x.2.1.length≤x.1)∧x.2.1.length≤x.1+1∧SetIn l n v x.2.1) (fun x=>l.length - x.1) ((0,[],decide (v=⟨#[]⟩)));(focus ((try push_cast [iO,tN]);rfl));(focus exact ⟨Nat.zero_le _,fun _=>Nat.le_refl _,Nat.zero_le _,SetIn.nil⟩);(focus ((refine weak_fg ?_;try push_cast [iO,tN]))))
 rintro ⟨k,o,done⟩ ⟨hk,h1,h2,h3⟩
 simp only at hk h1 h2 h3 ⊢
 push_cast [iO,tN]
 by_cases hlt:k < l.length
 ·have hm:=getD_mem hlt
  cases done
  ·have h1':=h1 rfl
   have hn1:(o++[(⟨n,v⟩:Atr)]).map Atr.d=o.map Atr.d++[[.v (.string n),.v (.string v)]]:=by simp [Atr.d]
   cases hc:bless (l.getD k default).name n
   ·by_cases hn:(l.getD k default).name=n
    ·rw [hn] at hc
     repeat' (first|((first|refine pC ?_|refine pQC ?_|refine pU ?_);push_cast [iO,tN,hc,hn])|(refine pif (fun h=>?_) (fun h=>?_)<;>first|exact pN h|push_cast [iO,tN,hc,hn]))
     exact ⟨(k+1,o++[⟨n,v⟩],true),⟨by simp only;omega,by simp,by simp only [List.length_append,List.length_singleton];omega,h3.snoc (.inr rfl)⟩,by (refine weak_fg ?_;push_cast [iO,tN]),by simp only;omega⟩
    ·repeat' (first|((first|refine pC ?_|refine pQC ?_|refine pU ?_);push_cast [iO,tN,hc,hn])|(refine pif (fun h=>?_) (fun h=>?_)<;>first|exact pN h|push_cast [iO,tN,hc,hn]))
     exact ⟨(k+1,o++[⟨n,v⟩]++[l.getD k default],true),⟨by simp only;omega,by simp,by simp only [List.length_append,List.length_singleton];omega,(h3.snoc (.inr rfl)).snoc (.inl hm)⟩,by (refine weak_fg ?_;push_cast [iO,tN]),by simp only;omega⟩
   ·by_cases hn:(l.getD k default).name=n
    ·rw [hn] at hc
     exact absurd (bless_ne hc) (fun h=>h rfl)
    ·repeat' (first|((first|refine pC ?_|refine pQC ?_|refine pU ?_);push_cast [iO,tN,hc,hn])|(refine pif (fun h=>?_) (fun h=>?_)<;>first|exact pN h|push_cast [iO,tN,hc,hn]))
     exact ⟨(k+1,o++[l.getD k default],false),⟨by simp only;omega,fun _=>by simp only [List.length_append,List.length_singleton];omega,by simp only [List.length_append,List.length_singleton];omega,h3.snoc (.inl hm)⟩,by (refine weak_fg ?_;push_cast [iO,tN]),by simp only;omega⟩
  ·by_cases hn:(l.getD k default).name=n
   ·repeat' (first|((first|refine pC ?_|refine pQC ?_|refine pU ?_);push_cast [iO,tN,hn])|(refine pif (fun h=>?_) (fun h=>?_)<;>first|exact pN h|push_cast [iO,tN,hn]))
    exact ⟨(k+1,o,true),⟨by simp only;omega,by simp,by simp only;omega,h3⟩,by (refine weak_fg ?_;push_cast [iO,tN]),by simp only;omega⟩
   ·repeat' (first|((first|refine pC ?_|refine pQC ?_|refine pU ?_);push_cast [iO,tN,hn])|(refine pif (fun h=>?_) (fun h=>?_)<;>first|exact pN h|push_cast [iO,tN,hn]))
    exact ⟨(k+1,o++[l.getD k default],true),⟨by simp only;omega,by simp,by simp only [List.length_append,List.length_singleton];omega,h3.snoc (.inl hm)⟩,by (refine weak_fg ?_;push_cast [iO,tN]),by simp only;omega⟩
 ·have hk2:k=l.length:=by omega
  cases done
  ·have h1':=h1 rfl
   repeat' (first|((first|refine pC ?_|refine pQC ?_|refine pU ?_);push_cast [iO,tN])|(refine pif (fun h=>?_) (fun h=>?_)<;>first|exact pN h|push_cast [iO,tN]))
   (refine retK_of [] ?_;push_cast [iO,tN])
   exact ⟨_,_,leP_refl _,leOs_refl _,o++[⟨n,v⟩],⟨by simp only [List.length_append,List.length_singleton];omega,h3.snoc (.inr rfl)⟩,by push_cast [iO,tN],rfl⟩
  ·repeat' (first|((first|refine pC ?_|refine pQC ?_|refine pU ?_);push_cast [iO,tN])|(refine pif (fun h=>?_) (fun h=>?_)<;>first|exact pN h|push_cast [iO,tN]))
   (refine retK_of [] ?_;push_cast [iO,tN])
   exact ⟨_,_,leP_refl _,leOs_refl _,o,⟨by omega,h3⟩,by push_cast [iO,tN],rfl⟩
def ShortA (o:List Atr):Prop:=∀ a ∈ o,a.name.size≤100∧a.value.size≤100
theorem ShortA.nil:ShortA []:=fun a ha=>by simp at ha
theorem ShortA.set {l o:List Atr} {n v:ByteArray} (hl:ShortA l) (ho:SetIn l n v o) (hn:n.size≤100) (hv:v.size≤100):ShortA o:=fun a ha=>by
 rcases ho a ha with h|h
 ·exact hl a h
 ·rw [h];exact ⟨hn,hv⟩
set_option maxHeartbeats 2000000 in
theorem wattrs_ex (L:List Int) (k:Nat) (hk:k < 100000) (hL:∀ x ∈ L,-9223372036854775808≤x∧x≤9223372036854775807) (hLl:L.length≤9223372036854775807) :
  PCalls Tryz.prog 86 [.c (.ptr 0 0)] [tape L k] fun r os=>∃ (o:List Atr) (k':Nat),(o.length≤3∧ShortA o)∧k'≤k+7∧r = .c (.sl 2 (o.map Atr.d))∧os=[tape L k']:=by
 refine pcalls_of Tryz.func86 rfl (by simp [Tryz.ntmps86]) ?_
 rw [Tryz.ntmps86,Tryz.results86]
 push_cast [iO,tN]
 have cB:CutB 5 []:=trivial
 repeat' (first |  ((refine plc [0] (next_ex L k 4 (by omega) (by decide) (by decide) hL hLl) ?_ ?_;push_cast [iO,tN];rintro r os ⟨v,⟨va,vb⟩,rfl,rfl⟩;push_cast [iO,tN]))  | ((first|refine pC ?_|refine pQC ?_|refine pU ?_);push_cast [iO,tN])|(refine pif (fun h=>?_) (fun h=>?_)<;>first|exact pN h|push_cast [iO,tN]))
 obtain ⟨m,rfl⟩:∃ m:Nat,v=(m:Int):=⟨v.toNat,by omega⟩
 (apply pwp_loop3 (α:=Nat × List Atr × Nat) 5 [] (fun x=>[(4,.c (.v (.int .i64 x.1))),(3,.c (.sl 2 (x.2.1.map Atr.d)))]) (fun x=>[(0,tape L x.2.2)]) (fun x=>x.2.1.length+x.1≤3∧ShortA x.2.1∧x.2.2+2 * x.1≤k+7) (fun x=>x.1) ((m,[],k+1));(focus ((try push_cast [iO,tN]);rfl));(focus exact ⟨by simp only [List.length_nil];omega,ShortA.nil,by simp only;omega⟩);(focus ((refine weak_fg ?_;try push_cast [iO,tN]))))
 rintro ⟨j,o,q⟩ ⟨h1,h2,h3⟩
 simp only at h1 h2 h3
 push_cast [iO,tN]
 by_cases hlt:0 < j
 case neg =>
  have hj:j=0:=by omega
  subst hj
  repeat' (first|((first|refine pC ?_|refine pQC ?_|refine pU ?_);push_cast [iO,tN])|(refine pif (fun h=>?_) (fun h=>?_)<;>first|exact pN h|push_cast [iO,tN]))
  (refine retK_of [0] ?_;push_cast [iO,tN])
  exact ⟨_,_,leP_refl _,leOs_refl _,o,q,⟨by omega,h2⟩,by omega,rfl,rfl⟩
 have h4:(0:Int) < (j:Int):=by omega
 have h5:(j:Int) - 1=((j - 1:Nat):Int):=by omega
 have o1:=one_ex L q [⟨#[115,105,122,101]⟩,⟨#[118,101,110,100,111,114]⟩,⟨#[97,100,100,114,101,115,115]⟩,⟨#[105,110,100,101,120]⟩,⟨#[115,108,111,116]⟩] (by omega) (by decide) (by decide) hL hLl
 have o2:=one_ex L (q+1) [⟨#[49]⟩,⟨#[50]⟩,⟨#[97,99,109,101]⟩,⟨#[97,97,58,98,98]⟩] (by omega) (by decide) (by decide) hL hLl
 repeat' (first|((refine plc [0] (o1) ?_ ?_;push_cast [iO,tN,h4];rintro r os ⟨n,nm,rfl,rfl⟩;push_cast [iO,tN,h4]))|((refine plc [0] (o2) ?_ ?_;push_cast [iO,tN,h4];rintro r os ⟨v,vm,rfl,rfl⟩;push_cast [iO,tN,h4]))|((refine plc [] (rset_ex o n v (by omega)) ?_ ?_;push_cast [iO,tN,h4];rintro r os ⟨o',⟨s1,s2⟩,rfl,rfl⟩;push_cast [iO,tN,h4]))|((first|refine pC ?_|refine pQC ?_|refine pU ?_);push_cast [iO,tN,h4])|(refine pif (fun h=>?_) (fun h=>?_)<;>first|exact pN h|push_cast [iO,tN,h4]))
 exact ⟨(j - 1,o',q+1+1),⟨by simp only;omega,h2.set s2 (mem_fit (by decide) nm) (mem_fit (by decide) vm),by simp only;omega⟩,by rw [← h5];(refine weak_fg ?_;push_cast [iO,tN]),by simp only;omega⟩
theorem wcontents_pure:PCalls Tryz.prog 88 [] [] fun r os=>(∃ l:List ByteArray,l.length=9∧(∀ s ∈ l,s.size≤100)∧r = .c (.sl 1 (l.map strD)))∧os=[]:=by
 refine pcalls_of Tryz.func88 rfl (by simp [Tryz.ntmps88]) ?_
 rw [Tryz.ntmps88,Tryz.results88]
 push_cast [iO,tN]
 repeat' (first|((first|refine pG ?_|refine pQ ?_|refine pU ?_);push_cast [iO,tN])|(refine pif (fun h=>?_) (fun h=>?_)<;>first|exact pN h|push_cast [iO,tN]))
 (refine retK_of [] ?_;push_cast [iO,tN])
 have e:∀ (a0 a1 a2 a3 a4 a5 a6 a7 a8:ByteArray),([a0,a1,a2,a3,a4,a5,a6,a7,a8].all fun s=>decide (s.size≤100))=true →
   ∃ l:List ByteArray,l.length=9∧(∀ s ∈ l,s.size≤100)∧PV.c (.sl 1 [[D.v (.string a0)],[D.v (.string a1)],[D.v (.string a2)],[D.v (.string a3)],[D.v (.string a4)],[D.v (.string a5)],[D.v (.string a6)],[D.v (.string a7)],[D.v (.string a8)]]) = .c (.sl 1 (l.map strD)) :=
  fun a0 a1 a2 a3 a4 a5 a6 a7 a8 h=>⟨[a0,a1,a2,a3,a4,a5,a6,a7,a8],rfl,fun s hs=>mem_fit h hs,rfl⟩
 exact ⟨_,_,leP_refl _,leOs_refl _,e _ _ _ _ _ _ _ _ _ (by decide),rfl⟩
end Go.Proofs.YthconflkbeipoaaGreatDoor
namespace Go.Proofs.YthconflkbeipoaaGreatDoor
open Go.RowKit
open IntWalk renaming iteOmega → iO, toNatUp → tN
set_option linter.unusedVariables false
set_option linter.unusedSimpArgs false
def allSome:List (Option PV) → List PV → Prop
 | [],[]=>True
 | some q :: l,r :: m=>leP q r∧allSome l m
 | _,_=>False
theorem allSome_ok {w:World} {Γ:G}:∀ {l:List (Option PV)} {m:List PV} {ys:List Value},allSome l m → All2 (fun q y=>∀ r,q=some r → RP w Γ r y) l ys → All2 (RP w Γ) m ys
 | [],[],_,_,h=>by rw [All2.nil_l] at h ⊢;exact h
 | some q :: l,r :: m,y :: ys,h,hr=>⟨leP_ok h.1 (hr.1 q rfl),allSome_ok h.2 hr.2⟩
 | some _ :: _,_ :: _,[],_,hr=>hr.elim
 | [],_ :: _,_,h,_=>h.elim
 | none :: _,_,_,h,_=>h.elim
 | some _ :: _,[],_,h,_=>h.elim
section
variable {P:Program} {N p:Nat} {ops:Array Oper} {rest:List Oper} {o:Oper} {s:S} {K:S → Prop}
theorem pl_call_all {f:Operand} {args:Array Operand} {tys:Array TypeId} {g:FuncId} {ds:List D} {cap:List Nat} {args':List PV} {R:PV → List Ob → Prop}
  (ho:o.op = .call ⟨.value f,args,tys⟩) (hg:gd ops s o.guard=some true) (hf:s.ev f=some (.c (.fn (.func g) ds cap))) (hb:bodyOk P g=true) (hd:dstOk N o.dst)
  (ha:allSome (callArgs s ds args.toList cap) args') (hc:PCalls P g args' s.o R)
  (hK:∀ r os'',R r os'' → PL P N p ops rest (S.put ⟨s.t,os''⟩ o.dst r) K):PL P N p ops (o :: rest) s K:=by
 intro Γ a w Q hA hQ
 obtain ⟨xs,ys,hfv,hargs⟩:=callArgs_ok hA.inv hf args
 have hseen:=allSome_ok ha hargs
 unfold wpListIn
 rw [if_pos (gd_ok hg hA.inv)]
 refine wpIn_enter (run_enter ho hfv hb) ?_
 have:=hc _ w _ hA.inv.m hseen
 rw [Array.toArray_toList] at this
 refine this.mono ?_
 rintro e w' ⟨r,os'',Γ',y,rfl,hR,hr,hlen,hm',hgr⟩
 have hle:p≤s.o.length:=by rw [← hA.inv.m.n];exact hA.le
 have hag:∀ j,j < Γ.n → Agree Γ Γ' j:=fun j hj=>by
  have hj':j < s.o.length:=by rw [← hA.inv.m.n];exact hj
  exact ⟨by rw [hm'.n];omega,(hgr.keep j hj').1,(hgr.keep j hj').2⟩
 have hI:=hA.inv.heap hm' (hgr.stay hA.inv.m) hag
 refine ⟨y,rfl,hK r os'' hR Γ' _ w' Q ⟨hI.put (dst_lt hd) hr,by rw [hm'.n];omega⟩ fun s' Γ2 a2 w2 hk hA2 hg2 hd2=>hQ s' Γ2 a2 w2 hk hA2 ?_ (hd2.trans (put_defers _ _ _))⟩
 have hgp:Grow p Γ w Γ' w':=⟨hgr.ext,hgr.sub,hgr.new,hgr.imm,fun k hk=>hgr.keep k (by omega)⟩
 exact hgp.trans hg2
theorem weak_slots {s':S} (ht:subT s s'.t) (ho:s'.o=s.o):Weak N p s s':=by
 intro Γ a w hA
 refine ⟨Γ,⟨⟨hA.inv.size,hA.inv.defers,fun i q hq=>?_,by rw [ho];exact hA.inv.m⟩,hA.le⟩,Grow.refl _ _ _⟩
 obtain ⟨r,hr,hle⟩:=subT_look ht hq
 obtain ⟨i1,i2⟩:=hA.inv.t i r hr
 exact ⟨i1,leP_ok hle i2⟩
end
def RetA (P:Program) (rs:List ResultVar) (p:Nat) (R:PV → List Ob → Prop) (s:S):Prop:=∃ r,resP P s rs=some r∧p≤s.o.length∧R r s.o
def RetQA (P:Program) (rs:List ResultVar) (p:Nat) (R:PV → List Ob → Prop):Exit → S → Prop
 | .normal,s=>RetA P rs p R s
 | .ret,s=>RetA P rs p R s
 | _,_=>False
theorem RetQA_normal (P:Program) (rs:List ResultVar) (p:Nat) (R:PV → List Ob → Prop) (s:S):RetQA P rs p R .normal s=RetA P rs p R s:=rfl
theorem RetQA_ret (P:Program) (rs:List ResultVar) (p:Nat) (R:PV → List Ob → Prop) (s:S):RetQA P rs p R .ret s=RetA P rs p R s:=rfl
attribute [push_cast] RetQA_normal RetQA_ret allSome
theorem pcalls_of_all {P:Program} {g:FuncId} {fn:Func} {c:Code} {args:List PV} {os:List Ob} {R:PV → List Ob → Prop} (hf:P.funcs[g]? = some fn) (hb:fn.body=some c) (hn:args.length≤fn.ntmps)
  (h:PWP P fn.ntmps os.length c (RetQA P fn.results.toList os.length R) ⟨parT 0 args,os⟩):PCalls P g args os R:=by
 refine calls_pwp (T:=RetA P fn.results.toList os.length R) hf hb hn (fun e s hq=>?_) (fun s' Γ Γ' a' w w' ht hI hg=>?_) h
 ·cases e with
  | normal=>exact ⟨.inl rfl,hq⟩
  | ret=>exact ⟨.inr rfl,hq⟩
  | exit j=>exact hq.elim
  | goto l=>exact hq.elim
  | panic ch=>exact hq.elim
  | outgrown=>exact hq.elim
 ·obtain ⟨r,h1,h2,h3⟩:=ht
  obtain ⟨y,h8,h9⟩:=resP_ok hI h1
  exact ⟨y,h8,r,s'.o,Γ',h3,h9,h2,hI.m,hg⟩
theorem Inv.fresh {N:Nat} {Γ:G} {s:S} {a:Act} {w:World} (h:Inv N Γ s a w) {d:Nat} {y:Value} (hd:s.get d=none):Inv N Γ s (a.put (some d) y) w:=by
 refine ⟨by simpa [Act.put] using h.size,h.defers,fun i q' hi=>?_,h.m⟩
 have e:i≠d:=fun e=>by rw [e,hd] at hi;cases hi
 obtain ⟨h1,h2⟩:=h.t i q' hi
 have h3:(a.put (some d) y).tmps.getD i Go.undef=a.tmps.getD i Go.undef:=by
  simp only [Act.put]
  rw [Array.getD_eq_getD_getElem?,Array.getD_eq_getD_getElem?,Array.getElem?_setIfInBounds_ne (fun e'=>e e'.symm)]
 rw [h3]
 exact ⟨h1,h2⟩
section
variable {P:Program} {N p:Nat} {ops:Array Oper} {s:S} {K:S → Prop} {fuel:Nat} {listed:Array Bool}
end
section
variable {P:Program} {N p:Nat} {ops:Array Oper} {rest:List Oper} {o:Oper} {s:S} {K:S → Prop}
end
section
variable {P:Program} {N p:Nat} {ops:Array Oper} {rest:List Oper} {o:Oper} {s:S} {K:S → Prop}
theorem litP_inv {t:TypeId} {len sz:Nat} {e:TypeId} {parts:List (Nat × Option PV)} {l:List (List D)} (hel:elOf P t=some (e,sz)) (h:litP P t len parts=some (.c (.full sz l))):len=parts.length∧0 < sz∧len * sz≤16777216∧(zerOf P e).map List.length=some sz∧partRows sz 0 parts=some l:=by
 unfold litP at h
 rw [hel] at h
 simp only at h
 split at h
 ·rename_i hc
  obtain ⟨l',hl,e'⟩:=Option.map_eq_some_iff.1 h
  injection e' with e'
  injection e' with _ e'
  subst e'
  exact ⟨hc.1,hc.2.1,hc.2.2.1,hc.2.2.2,hl⟩
 ·cases h
theorem pl_litown {t e:TypeId} {len sz:Nat} {parts:Array (Nat × Operand)} {l:List (List D)} (ho:o.op = .buildSlice t len parts) (hg:gd ops s o.guard=some true) (hel:elOf P t=some (e,sz)) (h0:0 < len)
  (h:litP P t len (parts.toList.map fun x=>(x.1,s.ev x.2))=some (.c (.full sz l))) (hd:dstOk N o.dst) (hK:PL P N p ops rest (S.put ⟨s.t,s.o++[.arr e sz l]⟩ o.dst (.c (.own s.o.length l.length))) K):PL P N p ops (o :: rest) s K:=by
 refine pl_heap (q:=.c (.own s.o.length l.length)) (os:=s.o++[.arr e sz l]) hg (fun Γ a w hA=>?_) (by simp) hd hK
 have hI:=hA.inv
 have hn:=hI.m.n
 obtain ⟨hlen,hsz,hsm,hz,hl⟩:=litP_inv hel h
 obtain ⟨hu,hsz'⟩:=el_run hel
 obtain ⟨zs,hzs,hzl⟩:=Option.map_eq_some_iff.1 hz
 obtain ⟨ie,z,hie,hzz,hzr⟩:=zer_ok hzs
 have hies:ie.size=sz:=by obtain ⟨i',hi',e'⟩:=Option.map_eq_some_iff.1 hsz';rw [hie] at hi';cases hi';exact e'
 have hlm:parts.toList.length=len:=by rw [hlen,List.length_map]
 obtain ⟨ys,g1,g2,g3,g4,m,g5,g6⟩:=partRows_ok (sz:=sz) _ _ 0 l ((Array.range (len * sz)).map (z.cells[· % z.cells.size]!)) (parts_ok hI parts.toList) hl (by simp [hlm])
 simp only [List.length_map,hlm] at g2
 simp only [Nat.zero_mul,List.take_zero,List.nil_append,Nat.zero_add,List.length_map,hlm] at g6
 rw [List.drop_eq_nil_of_le (by simp),List.append_nil] at g6
 have hrun:(execOp a.eval o).run P w = .ok (.value (.slice (some ⟨w.heap.size,0,none⟩) len len)) (w.alloc (.cells ys e)):=by
  have hb:=run_buildSlice (P:=P) w t e len (parts.map fun (i,x)=>(i,a.eval x)) ys ie z hu hie hzz (by rw [hies];simp;omega) (by rw [hies];have:=Nat.mul_pos h0 hsz;omega) (by rw [hies,Array.toList_map];exact g1)
  simp only [execOp,ho,Sem.run_bind,hb,Result.andThen_ok,Sem.run_pure]
 have hE:Ext No w (w.alloc (.cells ys e)):=(Ext.refl No w).alloc _
 have hS:=Same.of_ext hE
 have hag:=push_agree Γ w.heap.size len
 have hlc:len≤maxLen:=Nat.le_trans (Nat.le_trans (Nat.le_mul_of_pos_right len hsz) hsm) (by decide)
 have hm:MemOk (Γ.push w.heap.size len) (s.o++[.arr e sz l]) (w.alloc (.cells ys e)):=by
  refine hI.m.push hS _ _ _ ⟨g3,hsz,fun h=>?_,fun _=>⟨ys,?_,?_,?_,?_,?_⟩⟩ (fun _=>Nat.le_refl _)
  ·simp only [G.push,upd_same] at h;omega
  ·simp only [G.push,upd_same];exact Blk.new w e ys
  ·simp only [G.push,upd_same];rw [g4];simp
  ·simp only [G.push,upd_same];omega
  ·simp only [G.push,upd_same];exact hlc
  ·rw [g2,g6,List.take_of_length_le (by rw [← g6,Array.length_toList,g4];simp)]
   exact g5.mono fun _ _=>RD.stay (hS.stay Γ.I) _ _
 refine ⟨_,_,Γ.push w.heap.size len,.inl hrun,⟨by simp [G.push,hn],.inr ⟨?_,?_,?_⟩⟩,hI.heap hm (hS.stay Γ.I) hag,grow_push hI.m hE _ _ (fun _=>Nat.le_refl _) hA.le⟩
 ·simp only [G.push,← hn,upd_same];exact h0
 ·simp only [G.push,← hn,upd_same,g2]
 ·simp only [G.push,← hn,upd_same];omega
end
section
variable {P:Program} {N p:Nat} {ops:Array Oper} {s:S} {K:S → Prop} {fuel:Nat} {listed:Array Bool}
end
section
variable {P:Program} {N p:Nat} {ops:Array Oper} {rest:List Oper} {o:Oper} {s:S} {K:S → Prop}
section
variable {Q:Exit → S → Prop}
theorem pwp_regionL {rd:Option Nat} {id:Nat} {l:List Oper} (h:PL P N p l.toArray l s (fun s'=>Q .normal s')) (hp:plains l=true:=by kernel_rfl):PWPr rd P N p (.region id l.toArray false) Q s:=fun z Γ a w hA hD=>by
 refine wpIn_region_lit (list_rd hp ?_)
 exact h Γ a w _ hA fun s' Γ' a' w' hk hA' hg hd=>⟨s',Γ',hk,hA',hg,hD.grow hg hd⟩
end
end
section
variable {P:Program} {N p:Nat} {ops:Array Oper} {rest:List Oper} {o:Oper} {s:S} {K:S → Prop}
theorem pl_run1 {q:PV} (hg:gd ops s o.guard=some true) (h:run1 P p s o.op = .val q) (hd:dstOk N o.dst) (hK:PL P N p ops rest (s.put o.dst q) K):PL P N p ops (o :: rest) s K:=pl_val hg (run1_val h) hd hK
theorem pl_cat {t t':TypeId} {x z:Operand} {a b:ByteArray} (ho:o.op = .binOp .add t x z t') (hg:gd ops s o.guard=some true) (hx:s.ev x=some (.c (.v (.string a)))) (hz:s.ev z=some (.c (.v (.string b)))) (hf:(a.size:Int)+b.size≤9223372036854775807) (hd:dstOk N o.dst)
  (hK:PL P N p ops rest (s.put o.dst (.c (.v (.string (a++b))))) K):PL P N p ops (o :: rest) s K:=by
 refine pl_val (q:=.c (.v (.string (a++b)))) hg ?_ hd hK
 rw [ho]
 show binP P .add t (s.ev x) (s.ev z)=_
 rw [hx,hz]
 simp only [binP,binV,strOp,if_pos hf,Option.map_some]
end
section
variable {rd:Option Nat} {P:Program} {N p:Nat} {Q:Exit → S → Prop} {s:S}
theorem pwp_mid3 {x y:Code} {α:Type} (B:Nat) (ex:List Nat) (f:α → List (Nat × PV)) (g:α → List (Nat × Ob)) (Φ:α → Prop) (x0:α) {t0:List (Nat × PV)} (ht:cutT B ex ((f x0).map Prod.fst) s.t=t0)
  (h1:PWPr rd P N p x (thenE (fun s'=>∃ a,Φ a∧Weak N p s' ⟨f a++t0,setM s.o (g a)⟩) Q) s)
  (h2:∀ a,Φ a → PWPr rd P N p y Q ⟨f a++t0,setM s.o (g a)⟩):PWPr rd P N p (x.seq y) Q s:=by
 refine pwp_seq fun K hK=>pwp_mono h1 fun e s' h=>?_
 cases e with
 | normal =>
  obtain ⟨a,ha,hw⟩:=h
  exact hK s' (pwp_weak hw (h2 a ha))
 | _=>exact h
theorem pwp_mid4 {x y:Code} {α:Type} (B:Nat) (ex:List Nat) (f:α → List (Nat × PV)) (g:α → List (Nat × Ob)) (n:α → List Ob) (Φ:α → Prop) (x0:α) {t0:List (Nat × PV)} (ht:cutT B ex ((f x0).map Prod.fst) s.t=t0)
  (h1:PWPr rd P N p x (thenE (fun s'=>∃ a,Φ a∧Weak N p s' ⟨f a++t0,setM s.o (g a)++n a⟩) Q) s)
  (h2:∀ a,Φ a → PWPr rd P N p y Q ⟨f a++t0,setM s.o (g a)++n a⟩):PWPr rd P N p (x.seq y) Q s:=by
 refine pwp_seq fun K hK=>pwp_mono h1 fun e s' h=>?_
 cases e with
 | normal =>
  obtain ⟨a,ha,hw⟩:=h
  exact hK s' (pwp_weak hw (h2 a ha))
 | _=>exact h
end
def HidR (X:Prop):Prop:=X
theorem hidR (id:Nat) {rd:Option Nat} {P:Program} {N p:Nat} {Q:Exit → S → Prop} {s:S} {ops:Array Oper} (h:HidR (PWPr rd P N p (.region id ops true) Q s)):PWPr rd P N p (.region id ops true) Q s:=h
theorem unhid {X:Prop} (h:X):HidR X:=h
attribute [irreducible] HidR
theorem rp_vals {w:World} {Γ:G}:∀ {vs xs:List Value},All2 (RP w Γ) (vs.map fun v=>.c (.v v)) xs → xs=vs
 | [],_,h=>by rw [List.map_nil,All2.nil_l] at h;exact h
 | v :: vs,xs,h=>by
  rw [List.map_cons,All2.cons_l] at h
  obtain ⟨y,m,rfl,h1,h2⟩:=h
  rw [rp_vals h2,h1.1]
theorem ext_of_below {w w':World} (hB:Below w.heap.size w w'):Ext No w w':=⟨hB.os,hB.tape,hB.output,hB.size,fun k hk _=>hB.block k hk⟩
theorem pcalls_plain {P:Program} {g:FuncId} (vs:List Value) (v:Value) (hv:v.oneCell'=true) (h:∀ w,Pin w → Calls P g vs.toArray w fun e w'=>e = .returned v∧Below w.heap.size w w') :
  PCalls P g (vs.map fun v=>.c (.v v)) [] fun r os=>r = .c (.v v)∧os=[]:=fun Γ w xs hm hx=>by
 rw [rp_vals hx]
 refine (h w hm.pin.1).mono ?_
 rintro e w' ⟨rfl,hB⟩
 have hE:=ext_of_below hB
 exact ⟨_,[],Γ,_,rfl,⟨rfl,rfl⟩,⟨rfl,hv⟩,Nat.le_refl _,hm.same (Same.of_ext hE),ext_grow hE⟩
theorem pcalls_plain2 {P:Program} {g:FuncId} (vs:List Value) (v u:Value) (hv:v.oneCell'=true) (hu:u.oneCell'=true) (h:∀ w,Pin w → Calls P g vs.toArray w fun e w'=>e = .returned (.tuple #[v,u])∧Below w.heap.size w w') :
  PCalls P g (vs.map fun v=>.c (.v v)) [] fun r os=>r = .two (.c (.v v)) (.c (.v u))∧os=[]:=fun Γ w xs hm hx=>by
 rw [rp_vals hx]
 refine (h w hm.pin.1).mono ?_
 rintro e w' ⟨rfl,hB⟩
 have hE:=ext_of_below hB
 exact ⟨_,[],Γ,_,rfl,⟨rfl,rfl⟩,⟨_,_,rfl,⟨rfl,hv⟩,⟨rfl,hu⟩⟩,Nat.le_refl _,hm.same (Same.of_ext hE),ext_grow hE⟩
theorem pcalls_row {P:Program} {g:FuncId} (vs:List Value) (T:TypeId) (rows:List (List D)) (cells:List Value) (sz:Nat) (hsz:0 < sz) (hr:∀ r ∈ rows,r.length=sz) (hn:0 < rows.length) (hc:∀ w I,All2 (RD w I) rows.flatten cells)
  (h:∀ w,Pin w → Calls P g vs.toArray w fun e w'=>∃ v,e = .returned v∧w'.ownsRow w.heap.size T sz v rows.length cells∧Below w.heap.size w w') :
  PCalls P g (vs.map fun v=>.c (.v v)) [] fun r os=>r = .c (.own 0 rows.length)∧os=[.arr T sz rows]:=fun Γ w xs hm hx=>by
 rw [rp_vals hx]
 refine (h w hm.pin.1).mono ?_
 rintro e w' ⟨v,rfl,hrow,hB⟩
 have hE:=ext_of_below hB
 have hS:=Same.of_ext hE
 have hn0:Γ.n=0:=hm.n
 obtain ⟨b,c,rfl,h4,h5,h6,h7,h8,h9⟩:=arr_of_own (k:=Γ.n) (Γ:=Γ) (rows:=rows) hrow hn hsz hr rfl
 have hro:=h9 (Γ.push b c) (by simp [G.push,upd_same]) (by simp [G.push,upd_same]) (hc _ _)
 refine ⟨_,_,Γ.push b c,_,rfl,⟨rfl,rfl⟩,?_,by simp,hm.push hS _ b c hro (fun _=>h6),grow_push hm hE b c (fun _=>h6) (Nat.zero_le _)⟩
 have hrep:OwnRep (Γ.push b c) Γ.n rows.length (.slice (some ⟨b,0,none⟩) rows.length c):=.inr ⟨by simp [G.push,upd_same,h4],by simp [G.push,upd_same],by simp [G.push,upd_same];exact h5⟩
 rw [hn0] at hrep
 exact ⟨by simp [G.push,hn0],hrep⟩
end Go.Proofs.YthconflkbeipoaaGreatDoor
