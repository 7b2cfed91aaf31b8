/- What the program computes, and the plain laws of it, part 9. -/
import Derived.Deep.LoopGhost
import Derived.Deep.Quiet
import Derived.Test.YthhfpcbpiphfiaaGreatDoorR8
namespace Go.Proofs.YthhfpcbpiphfiaaGreatDoor
open Go.RowKit
open IntWalk renaming iteOmega → iO, toNatUp → tN
set_option linter.unusedVariables false
set_option linter.unusedSimpArgs false
def Weak (N p:Nat) (s s':S):Prop:=∀ Γ a w,Stands N p Γ s a w → ∃ Γ',Stands N p Γ' s' a w∧Grow p Γ w Γ' w
theorem Weak.refl (N p:Nat) (s:S):Weak N p s s:=fun Γ a w h=>⟨Γ,h,Grow.refl _ _ _⟩
theorem Weak.trans {N p:Nat} {s s' s'':S} (h:Weak N p s s') (h':Weak N p s' s''):Weak N p s s'':=fun Γ a w hA=>by
 obtain ⟨Γ1,h1,g1⟩:=h Γ a w hA
 obtain ⟨Γ2,h2,g2⟩:=h' Γ1 a w h1
 exact ⟨Γ2,h2,g1.trans g2⟩
theorem pl_weak {P:Program} {N p:Nat} {ops:Array Oper} {l:List Oper} {s s':S} {K:S → Prop} (hw:Weak N p s s') (h:PL P N p ops l s' K):PL P N p ops l s K:=fun Γ a w Q hA hK=>by
 obtain ⟨Γ1,h1,g1⟩:=hw Γ a w hA
 exact h Γ1 a w Q h1 fun s2 Γ2 a2 w2 hk hA2 hg hd=>hK s2 Γ2 a2 w2 hk hA2 (g1.trans hg) hd
def isEmp:Value → Bool
 | .slice _ 0 _=>true
 | _=>false
theorem isEmp_ok {x:Value} (h:isEmp x=true):∃ A c,x = .slice A 0 c:=by
 unfold isEmp at h
 split at h
 ·exact ⟨_,_,rfl⟩
 ·cases h
def leE:E → E → Prop
 | .v x,.v y=>x=y
 | .v x,.sl _ l=>isEmp x=true∧l=[]
 | .full sz l,.sl sz' l'=>sz=sz'∧l=l'
 | .full sz l,.full sz' l'=>sz=sz'∧l=l'
 | .sl sz l,.sl sz' l'=>sz=sz'∧l=l'
 | .own k n,.own k' n'=>k=k'∧n=n'
 | .ptr k f,.ptr k' f'=>k=k'∧f=f'
 | .row cs,.row cs'=>cs=cs'
 | .orow k sz i f,.orow k' sz' i' f'=>k=k'∧sz=sz'∧i=i'∧f=f'
 | .fn f ds ks,.fn f' ds' ks'=>f=f'∧ds=ds'∧ks=ks'
 | .mp k,.mp k'=>k=k'
 | .seg k sz lo n,.seg k' sz' lo' n'=>k=k'∧sz=sz'∧lo=lo'∧n=n'
 | _,.any=>True
 | _,_=>False
def leEs:List E → List E → Prop
 | [],[]=>True
 | a :: l,b :: m=>leE a b∧leEs l m
 | _,_=>False
def leP:PV → PV → Prop
 | .c e,.c e'=>leE e e'
 | .agg cs,.agg ds=>leEs cs ds
 | .undef,.undef=>True
 | .two a b,.two a' b'=>leP a a'∧leP b b'
 | .three a b c,.three a' b' c'=>leP a a'∧leP b b'∧leP c c'
 | _,_=>False
def lePs:List PV → List PV → Prop
 | [],[]=>True
 | a :: l,b :: m=>leP a b∧lePs l m
 | _,_=>False
def leO:Ob → Ob → Prop
 | .box ty cs,.box ty' cs'=>ty=ty'∧leEs cs cs'
 | .arr el sz rows,.arr el' sz' rows'=>el=el'∧sz=sz'∧rows=rows'
 | .map kk ag es,.map kk' ag' es'=>kk=kk'∧ag=ag'∧es=es'
 | .loop l L t,.loop l' L' t'=>l=l'∧L=L'∧t=t'
 | _,_=>False
def leOs:List Ob → List Ob → Prop
 | [],[]=>True
 | a :: l,b :: m=>leO a b∧leOs l m
 | _,_=>False
theorem leE_refl (e:E):leE e e:=by cases e<;>simp [leE]
theorem leEs_refl:∀ l:List E,leEs l l
 | []=>trivial
 | e :: l=>⟨leE_refl e,leEs_refl l⟩
theorem leP_refl:∀ q:PV,leP q q
 | .c e=>leE_refl e
 | .agg cs=>leEs_refl cs
 | .undef=>trivial
 | .two a b=>⟨leP_refl a,leP_refl b⟩
 | .three a b c=>⟨leP_refl a,leP_refl b,leP_refl c⟩
theorem leO_refl:∀ o:Ob,leO o o
 | .box _ cs=>⟨rfl,leEs_refl cs⟩
 | .arr _ _ _=>⟨rfl,rfl,rfl⟩
 | .map _ _ _=>⟨rfl,rfl,rfl⟩
 | .loop _ _ _=>⟨rfl,rfl,rfl⟩
theorem leOs_refl:∀ l:List Ob,leOs l l
 | []=>trivial
 | e :: l=>⟨leO_refl e,leOs_refl l⟩
theorem leE_ok {w:World} {Γ:G} {e e':E} {y:Value} (h:leE e e') (hr:RE w Γ e y):RE w Γ e' y:=by
 have h1:=RE.one hr
 unfold leE at h
 split at h
 ·subst h;exact hr
 ·rename_i x sz l
  obtain ⟨h,rfl⟩:=h
  obtain ⟨A,c,rfl⟩:=isEmp_ok h
  show RD w Γ.I (.sl sz []) y
  rw [rd_sl,hr.1]
  exact ⟨A,c,[],rfl,Nat.zero_le _,Rd.nil,by simp,trivial⟩
 ·obtain ⟨rfl,rfl⟩:=h;exact hr.1
 ·obtain ⟨rfl,rfl⟩:=h;exact hr
 ·obtain ⟨rfl,rfl⟩:=h;exact hr
 ·obtain ⟨rfl,rfl⟩:=h;exact hr
 ·obtain ⟨rfl,rfl⟩:=h;exact hr
 ·subst h;exact hr
 ·obtain ⟨rfl,rfl,rfl,rfl⟩:=h;exact hr
 ·obtain ⟨rfl,rfl,rfl⟩:=h;exact hr
 ·subst h;exact hr
 ·obtain ⟨rfl,rfl,rfl,rfl⟩:=h;exact hr
 ·exact h1
 ·exact h.elim
theorem leEs_ok {w:World} {Γ:G}:∀ {cs cs':List E} {ys:List Value},leEs cs cs' → All2 (RE w Γ) cs ys → All2 (RE w Γ) cs' ys
 | [],[],_,_,hr=>hr
 | a :: l,b :: m,y :: ys,h,hr=>⟨leE_ok h.1 hr.1,leEs_ok h.2 hr.2⟩
 | _ :: _,_ :: _,[],_,hr=>hr.elim
 | [],_ :: _,_,h,_=>h.elim
 | _ :: _,[],_,h,_=>h.elim
theorem leP_ok {w:World} {Γ:G}:∀ {q q':PV} {y:Value},leP q q' → RP w Γ q y → RP w Γ q' y
 | .c e,.c e',y,h,hr=>leE_ok h hr
 | .agg cs,.agg ds,y,h,⟨xs,h1,h2⟩=>⟨xs,h1,leEs_ok h h2⟩
 | .undef,.undef,y,_,hr=>hr
 | .two a b,.two a' b',y,h,⟨u,v,h1,h2,h3⟩=>⟨u,v,h1,leP_ok h.1 h2,leP_ok h.2 h3⟩
 | .three a b c,.three a' b' c',y,h,⟨u,v,r,h1,h2,h3,h4⟩=>⟨u,v,r,h1,leP_ok h.1 h2,leP_ok h.2.1 h3,leP_ok h.2.2 h4⟩
 | .c _,.agg _,_,h,_=>h.elim
 | .c _,.undef,_,h,_=>h.elim
 | .c _,.two _ _,_,h,_=>h.elim
 | .c _,.three _ _ _,_,h,_=>h.elim
 | .agg _,.c _,_,h,_=>h.elim
 | .agg _,.undef,_,h,_=>h.elim
 | .agg _,.two _ _,_,h,_=>h.elim
 | .agg _,.three _ _ _,_,h,_=>h.elim
 | .undef,.c _,_,h,_=>h.elim
 | .undef,.agg _,_,h,_=>h.elim
 | .undef,.two _ _,_,h,_=>h.elim
 | .undef,.three _ _ _,_,h,_=>h.elim
 | .two _ _,.c _,_,h,_=>h.elim
 | .two _ _,.agg _,_,h,_=>h.elim
 | .two _ _,.undef,_,h,_=>h.elim
 | .two _ _,.three _ _ _,_,h,_=>h.elim
 | .three _ _ _,.c _,_,h,_=>h.elim
 | .three _ _ _,.agg _,_,h,_=>h.elim
 | .three _ _ _,.undef,_,h,_=>h.elim
 | .three _ _ _,.two _ _,_,h,_=>h.elim
theorem lePs_ok {w:World} {Γ:G}:∀ {l l':List PV} {ys:List Value},lePs l l' → All2 (RP w Γ) l ys → All2 (RP w Γ) l' ys
 | [],[],_,_,hr=>hr
 | a :: l,b :: m,y :: ys,h,hr=>⟨leP_ok h.1 hr.1,lePs_ok h.2 hr.2⟩
 | _ :: _,_ :: _,[],_,hr=>hr.elim
 | [],_ :: _,_,h,_=>h.elim
 | _ :: _,[],_,h,_=>h.elim
theorem leO_ok {w:World} {Γ:G} {k:Nat}:∀ {o o':Ob},leO o o' → RO w Γ k o → RO w Γ k o'
 | .box ty cs,.box ty' cs',h,⟨h1,xs,h2,h3,h5⟩=>by obtain ⟨rfl,h4⟩:=h;exact ⟨h1,xs,h2,leEs_ok h4 h3,h5⟩
 | .arr el sz rows,.arr el' sz' rows',h,hr=>by obtain ⟨rfl,rfl,rfl⟩:=h;exact hr
 | .map kk ag es,.map kk' ag' es',h,hr=>by obtain ⟨rfl,rfl,rfl⟩:=h;exact hr
 | .loop l L t,.loop l' L' t',h,hr=>by obtain ⟨rfl,rfl,rfl⟩:=h;exact hr
 | .loop _ _ _,.box _ _,h,_=>h.elim
 | .loop _ _ _,.arr _ _ _,h,_=>h.elim
 | .loop _ _ _,.map _ _ _,h,_=>h.elim
 | .box _ _,.loop _ _ _,h,_=>h.elim
 | .arr _ _ _,.loop _ _ _,h,_=>h.elim
 | .map _ _ _,.loop _ _ _,h,_=>h.elim
 | .box _ _,.arr _ _ _,h,_=>h.elim
 | .box _ _,.map _ _ _,h,_=>h.elim
 | .arr _ _ _,.box _ _,h,_=>h.elim
 | .arr _ _ _,.map _ _ _,h,_=>h.elim
 | .map _ _ _,.box _ _,h,_=>h.elim
 | .map _ _ _,.arr _ _ _,h,_=>h.elim
theorem leOs_get:∀ {l m:List Ob} {k:Nat} {o':Ob},leOs l m → m[k]? = some o' → ∃ o,l[k]? = some o∧leO o o'
 | [],[],k,o',_,h=>by simp at h
 | a :: l,b :: m,0,o',h,h'=>by simp at h';subst h';exact ⟨a,by simp,h.1⟩
 | a :: l,b :: m,k+1,o',h,h'=>by
  obtain ⟨o,h1,h2⟩:=leOs_get (k:=k) h.2 (by simpa using h')
  exact ⟨o,by simpa using h1,h2⟩
 | [],_ :: _,_,_,h,_=>h.elim
 | _ :: _,[],_,_,h,_=>h.elim
theorem leOs_length:∀ {l m:List Ob},leOs l m → l.length=m.length
 | [],[],_=>rfl
 | a :: l,b :: m,h=>by simp [leOs_length h.2]
 | [],_ :: _,h=>h.elim
 | _ :: _,[],h=>h.elim
theorem leOs_mem {Γ:G} {w:World} {l m:List Ob} (h:leOs l m) (hm:MemOk Γ l w):MemOk Γ m w :=
 ⟨hm.n.trans (leOs_length h),fun k o ho=>by obtain ⟨o0,h1,h2⟩:=leOs_get h ho;exact leO_ok h2 (hm.ob k o0 h1),hm.sep,hm.off,hm.lt,hm.pin⟩
def keyOk (n:Nat) (e:E):Bool:=e.keys.all (· < n)
def pvOk (n:Nat):PV → Bool
 | .c e=>keyOk n e
 | .agg cs=>cs.all (keyOk n)
 | .undef=>true
 | .two x y=>pvOk n x && pvOk n y
 | .three x y z=>pvOk n x && pvOk n y && pvOk n z
def obOk (n:Nat):Ob → Bool
 | .box _ cs=>cs.all (keyOk n)
 | .loop _ _ t=>t.all fun x=>pvOk n x.2
 | _=>true
theorem pvOk_lt {n:Nat}:∀ {q:PV},pvOk n q=true → ∀ k ∈ q.keys,k < n
 | .c e,h,k,hk=>by simp only [pvOk,keyOk,List.all_eq_true,decide_eq_true_eq] at h;exact h k hk
 | .agg cs,h,k,hk=>by
  simp only [pvOk,List.all_eq_true] at h
  obtain ⟨e,he,hk'⟩:=List.mem_flatMap.1 hk
  have:=h e he
  simp only [keyOk,List.all_eq_true,decide_eq_true_eq] at this
  exact this k hk'
 | .undef,h,k,hk=>by simp [PV.keys] at hk
 | .two x y,h,k,hk=>by
  simp only [pvOk,Bool.and_eq_true] at h
  simp only [PV.keys,List.mem_append] at hk
  rcases hk with hk|hk
  ·exact pvOk_lt h.1 k hk
  ·exact pvOk_lt h.2 k hk
 | .three x y z,h,k,hk=>by
  simp only [pvOk,Bool.and_eq_true] at h
  simp only [PV.keys,List.mem_append] at hk
  rcases hk with (hk|hk)|hk
  ·exact pvOk_lt h.1.1 k hk
  ·exact pvOk_lt h.1.2 k hk
  ·exact pvOk_lt h.2 k hk
def sub1:Option PV → PV → Prop
 | some r,q=>leP r q
 | none,_=>False
def subT (s:S):List (Nat × PV) → Prop
 | []=>True
 | (i,q) :: t=>sub1 (s.get i) q∧subT s t
theorem subT_look {s:S}:∀ {t:List (Nat × PV)} {i:Nat} {q:PV},subT s t → look t i=some q → ∃ r,s.get i=some r∧leP r q
 | [],i,q,_,h=>by simp [look] at h
 | (d,r) :: t,i,q,hs,h=>by
  simp only [look] at h
  split at h
  ·rename_i e
   subst e
   cases h
   have h1:=hs.1
   cases hg:s.get i with
   | none=>rw [hg] at h1;exact h1.elim
   | some r=>rw [hg] at h1;exact ⟨r,rfl,h1⟩
  ·exact subT_look hs.2 h
theorem look_all {n:Nat} {i:Nat} {q:PV}:∀ {t:List (Nat × PV)},look t i=some q → (t.all fun x=>pvOk n x.2)=true → pvOk n q=true
 | [],h,_=>by simp [look] at h
 | x :: t,h,h'=>by
  simp only [List.all_cons,Bool.and_eq_true] at h'
  simp only [look] at h
  split at h
  ·cases h;exact h'.1
  ·exact look_all h h'.2
theorem weak_forget {N p:Nat} {s s':S} (ht:subT s s'.t) (ho:leOs (s.o.take s'.o.length) s'.o) (hp:p≤s'.o.length) (hk:(s'.t.all fun x=>pvOk s'.o.length x.2)=true) (hb:s'.o.all (obOk s'.o.length)=true):Weak N p s s':=by
 intro Γ a w hA
 have hle:s'.o.length≤s.o.length:=by
  have:=leOs_length ho
  rw [List.length_take] at this
  omega
 have hn:=hA.inv.m.n
 have hΓ:∃ Γ':G,Γ'=⟨s'.o.length,Γ.β,Γ.cap,Γ.I⟩:=⟨_,rfl⟩
 obtain ⟨Γ',hΓ⟩:=hΓ
 have q1:Γ'.n=s'.o.length:=by rw [hΓ]
 have q2:Γ'.I=Γ.I:=by rw [hΓ]
 have q3:Γ'.β=Γ.β:=by rw [hΓ]
 have q4:Γ'.cap=Γ.cap:=by rw [hΓ]
 have hs:Stay w Γ.I w Γ'.I:=by rw [q2];exact ⟨Nat.le_refl _,fun _ _ _=>rfl,fun _ h=>h⟩
 have hag:∀ k,k < s'.o.length → Agree Γ Γ' k:=fun k hk=>⟨by rw [q1];exact hk,by rw [q3],by rw [q4]⟩
 refine ⟨Γ',⟨⟨hA.inv.size,hA.inv.defers,fun i q hq=>?_,⟨q1,fun k o hk'=>?_,fun k k' h1 h2 h3 h4 h5=>?_,fun k h1 h2=>?_,fun b hb'=>?_,hA.inv.m.pins hs⟩⟩,by rw [q1];exact hp⟩,⟨Ext.refl _ _,fun b hb'=>by rw [q2];exact hb',fun k h1 h2=>?_,fun b hb'=>.inl (by rw [q2] at hb';exact hb'),fun k _=>by rw [q3,q4];exact ⟨rfl,rfl⟩⟩⟩
 ·obtain ⟨r,hr,hle⟩:=subT_look ht hq
  obtain ⟨i1,i2⟩:=hA.inv.t i r hr
  refine ⟨i1,(leP_ok hle i2).stay hs fun k hk'=>hag k (pvOk_lt ?_ k hk')⟩
  have:∀ t:List (Nat × PV),look t i=some q → (t.all fun x=>pvOk s'.o.length x.2)=true → pvOk s'.o.length q=true:=by
   intro t
   induction t with
   | nil=>intro h;simp [look] at h
   | cons x t ih =>
    intro h h'
    simp only [List.all_cons,Bool.and_eq_true] at h'
    simp only [look] at h
    split at h
    ·cases h;exact h'.1
    ·exact ih h h'.2
  exact this s'.t hq hk
 ·have hk2:k < s'.o.length:=(List.getElem?_eq_some_iff.1 hk').1
  obtain ⟨o0,hk0,hlo⟩:=leOs_get ho hk'
  have hk3:s.o[k]? = some o0:=by rw [List.getElem?_take,if_pos hk2] at hk0;exact hk0
  have h0:=leO_ok hlo (hA.inv.m.ob k o0 hk3)
  cases o with
  | box ty cs =>
   obtain ⟨j1,xs,j2,j3,j6⟩:=h0
   refine ⟨by rw [q4];exact j1,xs,by rw [q3];exact j2,re_stay j3 hs (fun i hi=>hag i ?_),by unfold Room;rw [q4];exact j6⟩
   have h1:=List.all_eq_true.1 hb (.box ty cs) (List.mem_of_getElem? hk')
   exact pvOk_lt (q:=.agg cs) h1 i hi
  | arr el sz rows =>
   obtain ⟨j1,j2,j3,j4⟩:=h0
   refine ⟨j1,j2,by rw [q4];exact j3,fun hc=>?_⟩
   rw [q4] at hc ⊢
   rw [q3,q2]
   exact j4 hc
  | map kk ag es =>
   obtain ⟨j1,ms,ck,j2,j3⟩:=h0
   exact ⟨by rw [q4];exact j1,ms,ck,by rw [q3];exact j2,j3.stay hs⟩
  | loop l L t =>
   obtain ⟨j1,j2,tm,j3,j4,j5⟩:=h0
   have h1:=List.all_eq_true.1 hb (.loop l L t) (List.mem_of_getElem? hk')
   exact ⟨by rw [q4];exact j1,by rw [q3];exact j2,tm,j3,j4,fun i q hq=>⟨(j5 i q hq).1,(j5 i q hq).2.stay hs fun i' hi'=>hag i' (pvOk_lt (look_all hq h1) i' hi')⟩⟩
 ·rw [q1] at h1 h2
  rw [q4] at h3 h4
  rw [q3] at h5
  exact hA.inv.m.sep k k' (by omega) (by omega) h3 h4 h5
 ·rw [q1] at h1
  rw [q4] at h2
  rw [q2,q3]
  exact hA.inv.m.off k (by omega) h2
 ·rw [q2] at hb';exact hA.inv.m.lt b hb'
 ·rw [q1] at h1
  rw [q4] at h2
  rw [q3]
  exact .inl ⟨k,by omega,h2,rfl⟩
theorem weak_adopt {N p:Nat} {s:S} (i:Nat) (el:TypeId) (sz:Nat) (hsz:0 < sz) (hi:s.get i=some (.c (.v (.slice none 0 0)))):Weak N p s ⟨(i,.c (.own s.o.length 0)) :: s.t,s.o++[.arr el sz []]⟩:=by
 intro Γ a w hA
 have hS:=Same.refl w
 have hm:MemOk (Γ.push 0 0) (s.o++[.arr el sz []]) w:=hA.inv.m.push hS _ 0 0 ⟨by simp,hsz,fun _=>rfl,fun h=>absurd h (by simp [G.push,upd_same])⟩ (fun h=>absurd h (by omega))
 have hI:=hA.inv.heap hm (hS.stay Γ.I) (push_agree Γ 0 0)
 have hn:=hA.inv.m.n
 refine ⟨Γ.push 0 0,⟨⟨hI.size,hI.defers,fun j q hq=>?_,hm⟩,Nat.le_succ_of_le hA.le⟩,grow_push hA.inv.m (Ext.refl No w) 0 0 (fun h=>absurd h (by omega)) hA.le⟩
 simp only [S.get,look] at hq
 split at hq
 ·rename_i e
  subst e
  cases hq
  obtain ⟨h1,h2,_⟩:=hA.inv.t j _ hi
  exact ⟨h1,by simp [G.push,hn],.inl ⟨by rw [← hn];simp [G.push,upd_same],⟨none,h2⟩,rfl⟩⟩
 ·exact hI.t j q hq
theorem weak_adopt_box {N p:Nat} {s:S} (k off:Nat) (el:TypeId) (sz:Nat) (hsz:0 < sz) (ty:TypeId) (cs:List E) (hk:s.o[k]? = some (.box ty cs)) (hi:cs[off]? = some (.v (.slice none 0 0))) :
  Weak N p s ⟨s.t,s.o.set k (.box ty (cs.set off (.own s.o.length 0)))++[.arr el sz []]⟩:=by
 intro Γ a w hA
 have hS:=Same.refl w
 have hm:MemOk (Γ.push 0 0) (s.o++[.arr el sz []]) w:=hA.inv.m.push hS _ 0 0 ⟨by simp,hsz,fun _=>rfl,fun h=>absurd h (by simp [G.push,upd_same])⟩ (fun h=>absurd h (by omega))
 have hI:=hA.inv.heap hm (hS.stay Γ.I) (push_agree Γ 0 0)
 have hn:=hA.inv.m.n
 have hkl:k < s.o.length:=(List.getElem?_eq_some_iff.1 hk).1
 refine ⟨Γ.push 0 0,⟨⟨hI.size,hI.defers,hI.t,⟨by simp [G.push,hn],fun j o ho=>?_,hm.sep,hm.off,hm.lt,hm.pin⟩⟩,Nat.le_succ_of_le hA.le⟩,grow_push hA.inv.m (Ext.refl No w) 0 0 (fun h=>absurd h (by omega)) hA.le⟩
 by_cases e:k=j
 ·subst e
  rw [List.getElem?_append_left (by rw [List.length_set];exact hkl),List.getElem?_set_self hkl] at ho
  cases ho
  obtain ⟨j1,xs,j2,j3,j6⟩:=hm.ob k (.box ty cs) (by rw [List.getElem?_append_left hkl];exact hk)
  obtain ⟨y,hy,hr⟩:=j3.get off _ hi
  refine ⟨j1,xs,j2,?_,j6⟩
  have h4:=j3.set_ off (a:=.own s.o.length 0) (b:=y) ⟨by simp [G.push,hn],.inl ⟨by rw [← hn];simp [G.push,upd_same],⟨none,hr.1⟩,rfl⟩⟩
  have h5:xs.set off y=xs:=by
   obtain ⟨h6,h7⟩:=List.getElem?_eq_some_iff.1 hy
   rw [← h7];exact List.set_getElem_self h6
  rwa [h5] at h4
 ·refine hm.ob j o ?_
  rcases Nat.lt_or_ge j s.o.length with h|h
  ·rw [List.getElem?_append_left (by rw [List.length_set];exact h),List.getElem?_set_ne e] at ho
   rw [List.getElem?_append_left h];exact ho
  ·rw [List.getElem?_append_right (by rw [List.length_set];exact h),List.length_set] at ho
   rw [List.getElem?_append_right h];exact ho
def E.frz (k sz:Nat) (rows:List (List D)):E → E
 | .own j n=>if j=k then (if n≤rows.length then .sl sz (rows.take n) else .any) else .own j n
 | .orow j z i f=>if j=k then .any else .orow j z i f
 | .ptr j f=>if j=k then .any else .ptr j f
 | .fn f ds ks=>if k ∈ ks then .any else .fn f ds ks
 | .mp j=>if j=k then .any else .mp j
 | .seg j z lo n=>if j=k then .any else .seg j z lo n
 | e=>e
def PV.frz (k sz:Nat) (rows:List (List D)):PV → PV
 | .c e=>.c (e.frz k sz rows)
 | .agg cs=>.agg (cs.map (E.frz k sz rows))
 | .undef=>.undef
 | .two x y=>.two (x.frz k sz rows) (y.frz k sz rows)
 | .three x y z=>.three (x.frz k sz rows) (y.frz k sz rows) (z.frz k sz rows)
def frzT (k sz:Nat) (rows:List (List D)):List (Nat × PV) → List (Nat × PV)
 | []=>[]
 | (i,q) :: t=>(i,q.frz k sz rows) :: frzT k sz rows t
def Ob.frz (k sz:Nat) (rows:List (List D)):Ob → Ob
 | .box ty cs=>.box ty (cs.map (E.frz k sz rows))
 | .loop l L t=>.loop l L (frzT k sz rows t)
 | o=>o
def frzO (k sz:Nat) (rows:List (List D)):List Ob → List Ob
 | []=>[]
 | o :: os=>o.frz k sz rows :: frzO k sz rows os
def S.frz (s:S) (k:Nat):S:=match s.o[k]? with
 | some (.arr el sz rows)=>⟨frzT k sz rows s.t,setO (frzO k sz rows s.o) k (.arr el sz [])⟩
 | _=>s
theorem look_frz (k sz:Nat) (rows:List (List D)) (i:Nat):∀ t:List (Nat × PV),look (frzT k sz rows t) i=(look t i).map (PV.frz k sz rows)
 | []=>rfl
 | (d,q) :: t=>by
  simp only [frzT,look]
  split
  ·rfl
  ·exact look_frz k sz rows i t
theorem frzO_get (k sz:Nat) (rows:List (List D)) (i:Nat):∀ os:List Ob,(frzO k sz rows os)[i]? = (os[i]?).map (Ob.frz k sz rows)
 | []=>by simp [frzO]
 | o :: os=>by
  cases i with
  | zero=>simp [frzO]
  | succ i=>simpa [frzO] using frzO_get k sz rows i os
theorem frzO_length (k sz:Nat) (rows:List (List D)):∀ os:List Ob,(frzO k sz rows os).length=os.length
 | []=>rfl
 | o :: os=>by simp [frzO,frzO_length k sz rows os]
theorem weak_frz {N p:Nat} {s:S} (k:Nat) (hp:p≤k):Weak N p s (s.frz k):=by
 intro Γ a w hA
 unfold S.frz
 split
 case h_2=>exact ⟨Γ,hA,Grow.refl _ _ _⟩
 rename_i el sz rows hk
 have hkl:k < s.o.length:=(List.getElem?_eq_some_iff.1 hk).1
 have hn:=hA.inv.m.n
 have hkn:k < Γ.n:=by rw [hn];exact hkl
 obtain ⟨g1,g2,g3,g4⟩:=hA.inv.m.ob k _ hk
 obtain ⟨Γ',hΓ⟩:∃ Γ':G,Γ'=⟨Γ.n,Γ.β,upd Γ.cap k 0,fun b=>Γ.I b∨(0 < Γ.cap k∧b=Γ.β k)⟩:=⟨_,rfl⟩
 have q1:Γ'.n=Γ.n:=by rw [hΓ]
 have q2:∀ b,Γ'.I b ↔ (Γ.I b∨(0 < Γ.cap k∧b=Γ.β k)):=by rw [hΓ];exact fun _=>Iff.rfl
 have q3:Γ'.β=Γ.β:=by rw [hΓ]
 have q4:Γ'.cap k=0:=by rw [hΓ];exact upd_same _ _ _
 have q5:∀ j,j≠k → Γ'.cap j=Γ.cap j:=fun j hj=>by rw [hΓ];exact upd_ne _ _ hj
 have hs:Stay w Γ.I w Γ'.I:=⟨Nat.le_refl _,fun _ _ _=>rfl,fun b hb=>(q2 b).2 (.inl hb)⟩
 have hag:∀ j,j < Γ.n → j≠k → Agree Γ Γ' j:=fun j hj hjk=>⟨by rw [q1];exact hj,by rw [q3],q5 j hjk⟩
 have hE:∀ (e:E) (y:Value),RE w Γ e y → RE w Γ' (e.frz k sz rows) y:=by
  intro e y h
  have h1:=RE.one h
  have hlt:=h.lt
  cases e with
  | own j n =>
   simp only [E.frz]
   split
   ·rename_i e;subst e
    split
    ·rename_i hnr
     have hnl:(rows.take n).length=n:=by rw [List.length_take];omega
     show RD w Γ'.I (.sl sz (rows.take n)) y
     rw [rd_sl]
     rcases h.2 with ⟨c1,⟨A,rfl⟩,rfl⟩|⟨c1,rfl,c2⟩
     ·exact ⟨A,0,[],by simp,by simp,by simpa using Rd.nil,by simp,by simp [All2]⟩
     ·obtain ⟨cur,b1,b2,b3,b4,b5⟩:=g4 c1
      have hb5:=b5.take (n * sz)
      rw [take_rows g1 hnr,List.take_take,Nat.min_eq_left (Nat.mul_le_mul_right _ hnr)] at hb5
      refine ⟨_,Γ.cap j,cur.toList.take (n * sz),by rw [hnl],by omega,⟨?_,fun _=>⟨_,0,rfl,(q2 _).2 (.inr ⟨c1,rfl⟩),b1.lt,fun i u hu=>?_⟩⟩,fun r hr=>g1 r (List.mem_of_mem_take hr),hb5.mono fun _ _=>RD.stay hs _ _⟩
      ·rw [List.length_take,Array.length_toList,b2,hnl]
       exact Nat.min_eq_left (Nat.mul_le_mul_right _ (by omega))
      ·rw [b1.cell,Nat.zero_add,← Array.getElem?_toList]
       rw [List.getElem?_take] at hu
       split at hu
       ·exact hu
       ·cases hu
    ·exact h1
   ·rename_i e;exact RE.stay h hs fun i hi=>hag i (hlt i hi) (by simp [E.keys] at hi;omega)
  | orow j z i f =>
   simp only [E.frz]
   split
   ·exact h1
   ·rename_i e;exact RE.stay h hs fun i hi=>hag i (hlt i hi) (by simp [E.keys] at hi;omega)
  | ptr j f =>
   simp only [E.frz]
   split
   ·exact h1
   ·rename_i e;exact RE.stay h hs fun i hi=>hag i (hlt i hi) (by simp [E.keys] at hi;omega)
  | fn f ds ks =>
   simp only [E.frz]
   split
   ·exact h1
   ·rename_i e;exact RE.stay h hs fun i hi=>hag i (hlt i hi) (by rintro rfl;exact e hi)
  | seg j z lo n =>
   simp only [E.frz]
   split
   ·exact h1
   ·rename_i e;exact RE.stay h hs fun i hi=>hag i (hlt i hi) (by simp [E.keys] at hi;omega)
  | mp j =>
   simp only [E.frz]
   split
   ·exact h1
   ·rename_i e;exact RE.stay h hs fun i hi=>hag i (hlt i hi) (by simp [E.keys] at hi;omega)
  | v x=>exact RE.stay (e:=.v x) h hs (by simp [E.keys])
  | sl z l=>exact RE.stay (e:=.sl z l) h hs (by simp [E.keys])
  | full z l=>exact RE.stay (e:=.full z l) h hs (by simp [E.keys])
  | row cs=>exact RE.stay (e:=.row cs) h hs (by simp [E.keys])
  | any=>exact h
 have hEs:∀ {cs:List E} {ys:List Value},All2 (RE w Γ) cs ys → All2 (RE w Γ') (cs.map (E.frz k sz rows)) ys:=fun h=>All2.map_l.2 (h.mono hE)
 have hP:∀ (q:PV) (y:Value),RP w Γ q y → RP w Γ' (q.frz k sz rows) y:=by
  intro q
  induction q with
  | c e=>intro y h;exact hE e y h
  | agg cs=>rintro y ⟨xs,h1,h2⟩;exact ⟨xs,h1,hEs h2⟩
  | undef=>intro y h;exact h
  | two x z ih1 ih2=>rintro y ⟨u,v,h1,h2,h3⟩;exact ⟨u,v,h1,ih1 u h2,ih2 v h3⟩
  | three x z t ih1 ih2 ih3=>rintro y ⟨u,v,r,h1,h2,h3,h4⟩;exact ⟨u,v,r,h1,ih1 u h2,ih2 v h3,ih3 r h4⟩
 refine ⟨Γ',⟨⟨hA.inv.size,hA.inv.defers,fun i q hq=>?_,⟨by rw [q1,hn,setO,List.length_set,frzO_length],fun j o ho=>?_,fun j j' h1 h2 h3 h4 h5=>?_,fun j h1 h2=>?_,fun b hb=>?_,hA.inv.m.pins hs⟩⟩,by rw [q1];exact hA.le⟩,⟨Ext.refl _ _,fun b hb=>(q2 b).2 (.inl hb),fun j h1 h2=>?_,fun b hb=>?_,fun j hj=>⟨by rw [q3],q5 j (by omega)⟩⟩⟩
 ·simp only [S.get] at hq
  rw [look_frz] at hq
  obtain ⟨q0,hq0,rfl⟩:=Option.map_eq_some_iff.1 hq
  obtain ⟨i1,i2⟩:=hA.inv.t i q0 hq0
  exact ⟨i1,hP q0 _ i2⟩
 ·simp only [setO] at ho
  by_cases hjk:k=j
  ·subst hjk
   rw [List.getElem?_set_self (by rw [frzO_length];exact hkl)] at ho
   cases ho
   exact ⟨by simp,g2,fun _=>rfl,fun h=>by rw [q4] at h;omega⟩
  ·rw [List.getElem?_set_ne hjk,frzO_get] at ho
   obtain ⟨o0,ho0,rfl⟩:=Option.map_eq_some_iff.1 ho
   have h0:=hA.inv.m.ob j o0 ho0
   cases o0 with
   | box ty cs =>
    obtain ⟨j1,xs,j2,j3,j6⟩:=h0
    exact ⟨by rw [q5 j (Ne.symm hjk)];exact j1,xs,by rw [q3];exact j2,hEs j3,by unfold Room;rw [q5 j (Ne.symm hjk)];exact j6⟩
   | arr el' sz' rows' =>
    obtain ⟨j1,j2,j3,j4⟩:=h0
    refine ⟨j1,j2,by rw [q5 j (Ne.symm hjk)];exact j3,fun hc=>?_⟩
    rw [q5 j (Ne.symm hjk)] at hc ⊢
    obtain ⟨cur,m1,m2,m3,m4,m5⟩:=j4 hc
    exact ⟨cur,by rw [q3];exact m1,m2,m3,m4,m5.mono fun _ _=>RD.stay hs _ _⟩
   | map kk ag es =>
    obtain ⟨j1,ms,ck,j2,j3⟩:=h0
    exact ⟨by rw [q5 j (Ne.symm hjk)];exact j1,ms,ck,by rw [q3];exact j2,j3.stay hs⟩
   | loop l L t =>
    obtain ⟨j1,j2,tm,j3,j4,j5⟩:=h0
    refine ⟨by rw [q5 j (Ne.symm hjk)];exact j1,by rw [q3];exact j2,tm,j3,j4,fun i q hq=>?_⟩
    rw [look_frz] at hq
    obtain ⟨q0,hq0,rfl⟩:=Option.map_eq_some_iff.1 hq
    obtain ⟨i1,i2⟩:=j5 i q0 hq0
    exact ⟨i1,hP q0 _ i2⟩
 ·rw [q1] at h1 h2
  have e1:j≠k:=by rintro rfl;rw [q4] at h3;omega
  have e2:j'≠k:=by rintro rfl;rw [q4] at h4;omega
  rw [q5 j e1] at h3
  rw [q5 j' e2] at h4
  rw [q3] at h5
  exact hA.inv.m.sep j j' h1 h2 h3 h4 h5
 ·rw [q1] at h1
  have e1:j≠k:=by rintro rfl;rw [q4] at h2;omega
  rw [q5 j e1] at h2
  rw [q3,q2]
  rintro (h3|⟨h3,h4⟩)
  ·exact hA.inv.m.off j h1 h2 h3
  ·exact e1 (hA.inv.m.sep j k h1 hkn h2 h3 h4)
 ·rcases (q2 b).1 hb with h|⟨h1,rfl⟩
  ·exact hA.inv.m.lt b h
  ·exact mine_lt hA.inv.m hkn h1
 ·rw [q1] at h1
  have e1:j≠k:=by rintro rfl;rw [q4] at h2;omega
  rw [q5 j e1] at h2
  rw [q3]
  exact .inl ⟨j,h1,h2,rfl⟩
 ·rcases (q2 b).1 hb with h|⟨h1,h2⟩
  ·exact .inl h
  ·exact .inr (.inl ⟨k,hkn,h1,h2.symm⟩)
end Go.Proofs.YthhfpcbpiphfiaaGreatDoor
