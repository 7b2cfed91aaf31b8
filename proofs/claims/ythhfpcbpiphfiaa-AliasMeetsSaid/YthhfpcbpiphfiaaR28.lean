/- What the program computes, and the plain laws of it, part 28. -/
import Derived.WideKeyEntry
import Derived.Sort.KeysCollected
import Derived.Shelf.SortM.Plain
import Derived.Shelf.SortM.SortNone
import Derived.Lib.OwnBridge
import Derived.Test.YthhfpcbpiphfiaaR27
namespace Go.Proofs.Ythhfpcbpiphfiaa
open Go.RowKit
open IntWalk renaming iteOmega → iO, toNatUp → tN
set_option linter.unusedVariables false
set_option linter.unusedSimpArgs false
def leD:D → D → Prop
 | .v x,.v y=>x=y
 | .v x,.sl _ l=>isEmp x=true∧l=[]
 | .sl sz l,.sl sz' l'=>sz=sz'∧l=l'
 | _,_=>False
def leDs:List D → List D → Prop
 | [],[]=>True
 | a :: l,b :: m=>leD a b∧leDs l m
 | _,_=>False
theorem leD_ok {w:World} {I:Nat → Prop} {d d':D} {y:Value} (h:leD d d') (hr:RD w I d y):RD w I d' y:=by
 cases d with
 | v x =>
  cases d' with
  | v z=>obtain rfl:x=z:=h;exact hr
  | sl sz l =>
   obtain ⟨h,rfl⟩:=h
   obtain ⟨A,c,rfl⟩:=isEmp_ok h
   rw [RD] at hr
   rw [rd_sl,hr.1]
   exact ⟨A,c,[],rfl,Nat.zero_le _,Rd.nil,by simp,trivial⟩
 | sl sz l =>
  cases d' with
  | v z=>exact h.elim
  | sl sz' l'=>obtain ⟨rfl,rfl⟩:=h;exact hr
theorem leDs_ok {w:World} {I:Nat → Prop}:∀ {r r':List D} {ys:List Value},leDs r r' → All2 (RD w I) r ys → All2 (RD w I) r' ys
 | [],[],_,_,hr=>hr
 | a :: l,b :: m,y :: ys,h,hr=>⟨leD_ok h.1 hr.1,leDs_ok h.2 hr.2⟩
 | _ :: _,_ :: _,[],_,hr=>hr.elim
 | [],_ :: _,_,h,_=>h.elim
 | _ :: _,[],_,h,_=>h.elim
theorem leDs_length:∀ {r r':List D},leDs r r' → r.length=r'.length
 | [],[],_=>rfl
 | a :: l,b :: m,h=>by simp [leDs_length h.2]
 | [],_ :: _,h=>h.elim
 | _ :: _,[],h=>h.elim
attribute [push_cast] leD leDs
def leRows:List (List D) → List (List D) → Prop
 | [],[]=>True
 | a :: l,b :: m=>leDs a b∧leRows l m
 | _,_=>False
theorem leRows_ok {w:World} {I:Nat → Prop}:∀ {r r':List (List D)} {ys:List Value},leRows r r' → All2 (RD w I) r.flatten ys → All2 (RD w I) r'.flatten ys
 | [],[],_,_,hr=>hr
 | a :: l,b :: m,ys,h,hr=>by
  simp only [List.flatten_cons] at hr ⊢
  obtain ⟨x,y,rfl,h1,h2⟩:=hr.split
  exact (leDs_ok h.1 h1).append (leRows_ok h.2 h2)
 | [],_ :: _,_,h,_=>h.elim
 | _ :: _,[],_,h,_=>h.elim
theorem leRows_length:∀ {r r':List (List D)},leRows r r' → r.length=r'.length
 | [],[],_=>rfl
 | a :: l,b :: m,h=>by simp [leRows_length h.2]
 | [],_ :: _,h=>h.elim
 | _ :: _,[],h=>h.elim
theorem leRows_mem {sz:Nat}:∀ {r r':List (List D)},leRows r r' → (∀ x ∈ r,x.length=sz) → ∀ x ∈ r',x.length=sz
 | [],[],_,_,x,hx=>by simp at hx
 | a :: l,b :: m,h,hr,x,hx=>by
  rcases List.mem_cons.1 hx with rfl|hx
  ·rw [← leDs_length h.1];exact hr a (by simp)
  ·exact leRows_mem h.2 (fun y hy=>hr y (by simp [hy])) x hx
 | [],_ :: _,h,_,_,_=>h.elim
 | _ :: _,[],h,_,_,_=>h.elim
attribute [push_cast] leRows
theorem weak_rows {N p:Nat} {s:S} (i:Nat) {sz:Nat} {l:List (List D)} (l':List (List D)) (hi:s.get i=some (.c (.full sz l))) (h:leRows l l'):Weak N p s ⟨(i,.c (.sl sz l')) :: s.t,s.o⟩:=by
 intro Γ a w hA
 refine ⟨Γ,⟨⟨hA.inv.size,hA.inv.defers,fun j q hq=>?_,hA.inv.m⟩,hA.le⟩,Grow.refl _ _ _⟩
 simp only [S.get,look] at hq
 split at hq
 ·rename_i e
  subst e
  cases hq
  obtain ⟨h1,h2,_⟩:=hA.inv.t j _ hi
  refine ⟨h1,?_⟩
  obtain ⟨A,c,xs,h3,h4,h5,h6,h7⟩:=rd_sl.1 h2
  show RD w Γ.I (.sl sz l') _
  rw [rd_sl,h3]
  have hl:=leRows_length h
  exact ⟨A,c,xs,by rw [hl],by omega,by rw [← hl];exact h5,leRows_mem h h6,leRows_ok h h7⟩
 ·exact hA.inv.t j q hq
end Go.Proofs.Ythhfpcbpiphfiaa
namespace Go.Proofs.Ythhfpcbpiphfiaa
attribute [local irreducible] PL QL PWPr PCalls Weak RetK Kontr PA
open Go.RowKit
open IntWalk renaming iteOmega → iO, toNatUp → tN
set_option linter.unusedVariables false
set_option linter.unusedSimpArgs false
set_option maxRecDepth 20000
theorem index_pure (l:List ByteArray) (s:ByteArray) (hl:l.length≤1000000000) :
  PCalls Try.prog 54 [.c (.sl 1 (l.map strD)),.c (.v (.string s))] [] fun r os=>∃ k:Int,((k = -1∧s ∉ l)∨∃ i:Nat,k=i∧i < l.length∧l.getD i default=s)∧r = .c (.v (.int .i64 k))∧os=[]:=by
 refine pcalls_of Try.func54 rfl (by simp [Try.ntmps54]) ?_
 rw [Try.ntmps54,Try.results54]
 push_cast [iO,tN]
 repeat' (first|((first|refine pG ?_|refine pQ ?_|refine pU ?_);push_cast [iO,tN])|(refine pif (fun h=>?_) (fun h=>?_)<;>first|exact pN h|push_cast [iO,tN]))
 refine pwp_loop2 (α:=Nat) (fun k=>k≤l.length∧s ∉ l.take k) (fun k=>⟨[(8,.c (.v (.int .i64 k))),(7,.c (.v (.int .i64 l.length))),(6,.c (.sl 1 (l.map strD))),(0,.c (.sl 1 (l.map strD))),(1,.c (.v (.string s)))],[]⟩) (fun k=>l.length - k) 0 ⟨by omega,by simp⟩ (by (refine weak_fg ?_;push_cast [iO,tN])) ?_
 rintro k ⟨hk,hpre⟩
 by_cases hlt:k < l.length
 ·have e1:=getD_lt l hlt
  repeat' (first|((first|refine pG ?_|refine pQ ?_|refine pU ?_);push_cast [iO,tN])|(refine pif (fun h=>?_) (fun h=>?_)<;>first|exact pN h|push_cast [iO,tN]))
  ·(refine retK_of [] ?_;push_cast [iO,tN])
   exact ⟨_,_,leP_refl _,leOs_refl _,k,.inr ⟨k,rfl,hlt,h.symm⟩,rfl,rfl⟩
  ·refine ⟨k+1,⟨by omega,?_⟩,by (refine weak_fg ?_;push_cast [iO,tN]),by omega⟩
   rw [List.take_succ_eq_append_getElem hlt]
   simp only [List.mem_append,List.mem_singleton,not_or]
   exact ⟨hpre,by rw [← e1];exact h⟩
 ·rw [List.take_of_length_le (by omega)] at hpre
  repeat' (first|((first|refine pG ?_|refine pQ ?_|refine pU ?_);push_cast [iO,tN])|(refine pif (fun h=>?_) (fun h=>?_)<;>first|exact pN h|push_cast [iO,tN]))
  (refine retK_of [] ?_;push_cast [iO,tN])
  exact ⟨_,_,leP_refl _,leOs_refl _,-1,.inl ⟨rfl,hpre⟩,rfl,rfl⟩
theorem containsD_pure (l:List ByteArray) (s:ByteArray) (hl:l.length≤1000000000) :
  PCalls Try.prog 37 [.c (.sl 1 (l.map strD)),.c (.v (.string s))] [] fun r os=>r = .c (.v (.bool (inM s l)))∧os=[]:=by
 refine pcalls_of Try.func37 rfl (by simp [Try.ntmps37]) ?_
 rw [Try.ntmps37,Try.results37]
 push_cast [iO,tN]
 repeat' (first |  (refine plc [] (index_pure l s hl) ?_ ?_;push_cast [iO,tN];rintro r os ⟨k,hk,rfl,rfl⟩;push_cast [iO,tN])  | ((first|refine pG ?_|refine pQ ?_|refine pU ?_);push_cast [iO,tN])|(refine pif (fun h=>?_) (fun h=>?_)<;>first|exact pN h|push_cast [iO,tN]))
 (refine retK_of [] ?_;push_cast [iO,tN])
 rcases hk with ⟨rfl,h⟩|⟨i,rfl,hi,rfl⟩
 ·rw [inM_false.2 h];rfl
 ·rw [inM_iff.2 (by rw [getD_lt l hi];exact List.getElem_mem _)];simp
def wmL:List Mod:=[⟨⟨#[104,105,100]⟩,[⟨#[117,115,98,58,118,49,42]⟩],[],[],[],false⟩,⟨⟨#[110,105,99]⟩,[⟨#[112,99,105,58,100,50]⟩,⟨#[117,115,98,58,118,50]⟩],[⟨#[99,111,114,101]⟩],[],[],false⟩,⟨⟨#[99,111,114,101]⟩,[],[],[],[⟨#[101,120,116,114,97]⟩],false⟩,⟨⟨#[101,120,116,114,97]⟩,[],[],[⟨#[104,105,100]⟩],[],false⟩,⟨⟨#[111,116,104,101,114]⟩,[⟨#[117,115,98,58,42]⟩],[],[⟨#[101,120,116,114,97]⟩],[],false⟩,⟨⟨#[98,97,100]⟩,[⟨#[112,99,105,58,42]⟩],[],[],[],true⟩,⟨⟨#[114,105,110,103]⟩,[],[⟨#[114,105,110,103,50]⟩],[],[],false⟩,⟨⟨#[114,105,110,103,50]⟩,[],[⟨#[114,105,110,103]⟩],[],[],false⟩]
set_option maxHeartbeats 2000000 in
theorem wmods_pure (L:List Int) (k:Nat) (hk:k < 2000) (hL:∀ x ∈ L,-9223372036854775808≤x∧x≤9223372036854775807) (hl:L.length≤9223372036854775807) :
  PCalls Try.prog 22 [.c (.ptr 0 0)] [tape L k] fun r os=>∃ l:List Mod,l.Sublist wmL∧r = .c (.sl 6 (l.map Mod.d))∧os=[tape L (k+8)]:=by
 refine pcalls_of Try.func22 rfl (by simp [Try.ntmps22]) ?_
 rw [Try.ntmps22,Try.results22]
 push_cast [iO,tN]
 repeat' (first|((first|refine pG ?_|refine pQ ?_|refine pU ?_);push_cast [iO,tN])|(refine pif (fun h=>?_) (fun h=>?_)<;>first|exact pN h|push_cast [iO,tN]))
 refine pwp_weak (weak_rows 3 (wmL.map Mod.d) rfl (by simp [wmL,Mod.d,leRows,leDs,leD,isEmp,strD])) ?_
 refine pwp_weak (weak_adopt 4 46 6 (by omega) (by push_cast [iO,tN])) ?_
 push_cast [iO,tN]
 refine pwp_loop2 (α:=Nat × List Mod) (fun x=>x.1≤8∧x.2.Sublist (wmL.take x.1)) (fun x=>⟨[(5,.c (.v (.int .i64 x.1))),(4,.c (.own 1 x.2.length)),(3,.c (.sl 6 (wmL.map Mod.d))),(0,.c (.ptr 0 0))],[tape L (k+x.1),.arr 46 6 (x.2.map Mod.d)]⟩) (fun x=>8 - x.1) (0,[]) ⟨by simp,by simp⟩ (by (refine weak_fg ?_;push_cast [iO,tN]);try omega) ?_
 rintro ⟨i,l⟩ ⟨hi,hs⟩
 simp only at hi hs
 have h8:wmL.length=8:=rfl
 have hll:=hs.length_le
 rw [List.length_take] at hll
 by_cases hlt:i < 8
 ·obtain ⟨hb,hc⟩:=fold_bds (tapeAt L (k+i)) 4 (by omega)
  obtain ⟨v,hv⟩:∃ v,fold (tapeAt L (k+i)) 4=v:=⟨_,rfl⟩
  rw [hv] at hb hc
  have hst:wmL.take (i+1)=wmL.take i++[wmL[i]]:=List.take_succ_eq_append_getElem (by omega)
  by_cases h0:0 < v
  all_goals repeat' (first|(refine plc [0] (next_pure L (k+i) 4 (by omega) (by omega) hL hl) ?_ ?_;push_cast [iO,tN,hv,h8];rintro r os ⟨rfl,rfl⟩;push_cast [iO,tN,hv,h8])|((first|refine pG ?_|refine pQ ?_|refine pU ?_);push_cast [iO,tN,hv,h8])|(refine pif (fun h=>?_) (fun h=>?_)<;>first|exact pN h|push_cast [iO,tN,hv,h8]))
  ·refine ⟨(i+1,l++[wmL.getD i default]),⟨by simp only;omega,?_⟩,by (refine weak_fg ?_;push_cast [iO,tN]);try omega,by simp only;omega⟩
   simp only [hst]
   rw [getD_lt wmL (by omega)]
   exact hs.append (List.Sublist.refl _)
  ·exact ⟨(i+1,l),⟨by simp only;omega,by simp only [hst];exact hs.trans (List.sublist_append_left _ _)⟩,by (refine weak_fg ?_;push_cast [iO,tN]);try omega,by simp only;omega⟩
 ·have h:i=8:=by omega
  subst h
  have he:=List.take_of_length_le (l:=l.map Mod.d) (i:=l.length) (by simp)
  repeat' (first|((first|refine pG ?_|refine pQ ?_|refine pU ?_);push_cast [iO,tN,h8])|(refine pif (fun h=>?_) (fun h=>?_)<;>first|exact pN h|push_cast [iO,tN,h8]))
  (refine retK_of [0] ?_;push_cast [iO,tN])
  exact ⟨.c (.sl 6 (l.map Mod.d)),[tape L (k+8)],by first|exact ⟨rfl,rfl⟩|(rw [he];exact ⟨rfl,rfl⟩),by push_cast [iO,tN],l,hs.trans (List.take_sublist _ _),rfl,rfl⟩
set_option maxRecDepth 20000
def asc (l:List ByteArray):Prop:=l.Pairwise fun a b=>bless a b=true
theorem asc_ext:∀ {l m:List ByteArray},asc l → asc m → (∀ x,x ∈ l ↔ x ∈ m) → l=m
 | [],[],_,_,_=>rfl
 | [],b :: m,_,_,h=>by have:=(h b).2 (by simp);simp at this
 | a :: l,[],_,_,h=>by have:=(h a).1 (by simp);simp at this
 | a :: l,b :: m,hl,hm,h=>by
  obtain ⟨l1,l2⟩:=List.pairwise_cons.1 hl
  obtain ⟨m1,m2⟩:=List.pairwise_cons.1 hm
  have hab:a=b:=by
   rcases List.mem_cons.1 ((h a).1 (by simp)) with e|e
   ·exact e
   ·rcases List.mem_cons.1 ((h b).2 (by simp)) with e'|e'
    ·exact e'.symm
    ·have h1:=m1 a e
     have h2:=l1 b e'
     rw [bless_asymm h1] at h2
     cases h2
  subst hab
  congr 1
  refine asc_ext l2 m2 fun x=>⟨fun hx=>?_,fun hx=>?_⟩
  ·rcases List.mem_cons.1 ((h x).1 (by simp [hx])) with e|e
   ·subst e;have:=l1 _ hx;rw [bless_irrefl] at this;cases this
   ·exact e
  ·rcases List.mem_cons.1 ((h x).2 (by simp [hx])) with e|e
   ·subst e;have:=m1 _ hx;rw [bless_irrefl] at this;cases this
   ·exact e
theorem asc_nodup {l:List ByteArray} (h:asc l):l.Nodup:=h.imp fun h=>bless_ne h
def unB (x:List UInt8):ByteArray:=⟨x.toArray⟩
theorem unB_list (b:ByteArray):unB b.data.toList=b:=by unfold unB;rfl
theorem list_unB (x:List UInt8):(unB x).data.toList=x:=by unfold unB;rfl
set_option maxRecDepth 20000
def Cfg.e (c:Cfg):List E:=c.d.map D.e
attribute [push_cast] Cfg.e
set_option maxRecDepth 20000
theorem nodup_len {α:Type} [DecidableEq α]:∀ (l m:List α),l.Nodup → (∀ x ∈ l,x ∈ m) → l.length≤m.length
 | [],m,_,_=>by simp
 | a :: l,m,h,hs=>by
  obtain ⟨h1,h2⟩:=List.nodup_cons.1 h
  have ih:=nodup_len l (m.filter fun x=>decide (x≠a)) h2 (fun x hx=>by
   rw [List.mem_filter]
   refine ⟨hs x (by simp [hx]),?_⟩
   simp only [ne_eq,decide_eq_true_eq]
   rintro rfl
   exact h1 hx)
  have h3:(m.filter fun x=>decide (x≠a)).length < m.length:=by
   have hle:=List.length_filter_le (fun x=>decide (x≠a)) m
   rcases Nat.lt_or_ge (m.filter fun x=>decide (x≠a)).length m.length with h|h
   ·exact h
   ·have:=(List.length_filter_eq_length_iff (p:=fun x=>decide (x≠a)) (l:=m)).1 (by omega) a (hs a (by simp))
    simp at this
  simp only [List.length_cons]
  omega
theorem flat_len {α β:Type} (f:α → List β) (k:Nat):∀ l:List α,(∀ x ∈ l,(f x).length≤k) → (l.flatMap f).length≤l.length * k
 | [],_=>by simp
 | a :: l,h=>by
  have ih:=flat_len f k l (fun x hx=>h x (by simp [hx]))
  have:=h a (by simp)
  simp only [List.flatMap_cons,List.length_append,List.length_cons,Nat.add_mul]
  omega
end Go.Proofs.Ythhfpcbpiphfiaa
namespace Go.Proofs.Ythhfpcbpiphfiaa
open Go.RowKit
open IntWalk renaming iteOmega → iO, toNatUp → tN
set_option linter.unusedVariables false
set_option linter.unusedSimpArgs false
theorem put_parts (l:List ByteArray) (s:ByteArray) (h:asc l):∃ a b,l=a++b∧(∀ x ∈ a,bless x s=true)∧(∀ x ∈ b,bless x s=false)∧((s ∈ b∧putM l s=l)∨(s ∉ b∧putM l s=a++s :: b)):=by
 refine ⟨l.takeWhile fun x=>bless x s,l.dropWhile fun x=>bless x s,List.takeWhile_append_dropWhile.symm,fun x hx=>?_,fun x hx=>?_,?_⟩
 ·have:=List.all_takeWhile (p:=fun x=>bless x s) (l:=l)
  exact List.all_eq_true.1 this x hx
 ·induction l with
  | nil=>simp at hx
  | cons a l ih =>
   obtain ⟨h1,h2⟩:=List.pairwise_cons.1 h
   rw [List.dropWhile_cons] at hx
   split at hx
   ·exact ih h2 hx
   ·rename_i hb
    rcases List.mem_cons.1 hx with rfl|hx
    ·simpa using hb
    ·cases hc:bless x s
     ·rfl
     ·exact absurd (bless_trans (h1 x hx) hc) (by simpa using hb)
 ·have hi:l.take (l.takeWhile fun x=>bless x s).length=l.takeWhile fun x=>bless x s:=by
   conv=>lhs;arg 2;rw [← List.takeWhile_append_dropWhile (p:=fun x=>bless x s) (l:=l)]
   rw [List.take_left]
  have hd:l.drop (l.takeWhile fun x=>bless x s).length=l.dropWhile fun x=>bless x s:=by
   conv=>lhs;arg 2;rw [← List.takeWhile_append_dropWhile (p:=fun x=>bless x s) (l:=l)]
   rw [List.drop_left]
  have hg:∀ d,l.getD (l.takeWhile fun x=>bless x s).length d=(l.dropWhile fun x=>bless x s).getD 0 d:=by
   intro d
   rw [← hd]
   simp [List.getD]
  have hlen:(l.takeWhile fun x=>bless x s).length+(l.dropWhile fun x=>bless x s).length=l.length:=by
   rw [← List.length_append,List.takeWhile_append_dropWhile]
  unfold putM
  simp only [hi,hd,hg]
  have hasc:asc (l.dropWhile fun x=>bless x s):=h.sublist (List.dropWhile_sublist _)
  cases hb:l.dropWhile fun x=>bless x s with
  | nil =>
   rw [hb] at hlen
   simp only [List.length_nil,Nat.add_zero] at hlen
   exact .inr ⟨by simp,by rw [if_neg (fun h=>absurd h.2 (by omega))]⟩
  | cons c b =>
   rw [hb] at hlen hasc
   simp only [List.length_cons] at hlen
   have hc:bless c s=false:=by
    have:=List.head?_dropWhile_not (fun x=>bless x s) l
    rw [hb] at this
    simpa using this
   by_cases he:c=s
   ·exact .inl ⟨by simp [he],by rw [if_pos ⟨by simpa using he,by omega⟩]⟩
   ·refine .inr ⟨?_,by rw [if_neg (fun h=>he (by simpa using h.1))]⟩
    rintro hm
    rcases List.mem_cons.1 hm with e|e
    ·exact he e.symm
    ·have:=(List.pairwise_cons.1 hasc).1 s e
     rw [hc] at this
     cases this
theorem putA_mem {l:List ByteArray} {s x:ByteArray} (h:asc l):x ∈ putM l s ↔ x ∈ l∨x=s:=by
 obtain ⟨a,b,rfl,h1,h2,⟨hs,h3⟩|⟨hs,h3⟩⟩:=put_parts l s h
 all_goals rw [h3]
 ·constructor
  ·exact .inl
  ·rintro (h|rfl)
   ·exact h
   ·exact List.mem_append.2 (.inr hs)
 ·simp only [List.mem_append,List.mem_cons]
  constructor
  ·rintro (h|h|h)
   ·exact .inl (.inl h)
   ·exact .inr h
   ·exact .inl (.inr h)
  ·rintro ((h|h)|h)
   ·exact .inl h
   ·exact .inr (.inr h)
   ·exact .inr (.inl h)
theorem put_asc {l:List ByteArray} {s:ByteArray} (h:asc l):asc (putM l s):=by
 obtain ⟨a,b,rfl,h1,h2,⟨hs,h3⟩|⟨hs,h3⟩⟩:=put_parts l s h
 all_goals rw [h3]
 ·exact h
 ·obtain ⟨p1,p2,p3⟩:=List.pairwise_append.1 h
  have hsb:∀ y ∈ b,bless s y=true:=by
   intro y hy
   cases hc:bless s y
   ·exact absurd (bless_total (h2 y hy) hc) (by rintro rfl;exact hs hy)
   ·rfl
  refine List.pairwise_append.2 ⟨p1,List.pairwise_cons.2 ⟨hsb,p2⟩,fun x hx y hy=>?_⟩
  rcases List.mem_cons.1 hy with rfl|hy
  ·exact h1 x hx
  ·exact p3 x hx y hy
theorem put_old {l:List ByteArray} {s:ByteArray} (h:asc l) (hs:s ∈ l):putM l s=l:=asc_ext (put_asc h) h fun x=>by
 rw [putA_mem h]
 exact ⟨fun h=>h.elim id fun e=>e ▸ hs,.inl⟩
theorem put_len {l:List ByteArray} {s:ByteArray} (h:asc l):(putM l s).length=l.length+(if inM s l=true then 0 else 1):=by
 cases hm:inM s l
 ·obtain ⟨a,b,rfl,h1,h2,⟨hs,h3⟩|⟨hs,h3⟩⟩:=put_parts l s h
  ·exact absurd (List.mem_append.2 (.inr hs)) (inM_false.1 hm)
  ·rw [h3];simp;omega
 ·rw [put_old h (inM_iff.1 hm)];simp
end Go.Proofs.Ythhfpcbpiphfiaa
namespace Go.Proofs.Ythhfpcbpiphfiaa
attribute [local irreducible] PL QL PWPr PCalls Weak RetK Kontr PA
open Go.RowKit
open IntWalk renaming iteOmega → iO, toNatUp → tN
set_option linter.unusedVariables false
set_option linter.unusedSimpArgs false
set_option maxRecDepth 20000
set_option maxRecDepth 20000
theorem tw_len {α:Type} (p:α → Bool):∀ (l:List α) (k:Nat),k≤l.length → (∀ x ∈ l.take k,p x=true) → (∀ h:k < l.length,p l[k]=false) → (l.takeWhile p).length=k
 | [],k,hk,_,_=>by simp at hk;simp [hk]
 | x :: l,0,_,_,h=>by have:=h (by simp);simp at this;simp [this]
 | x :: l,k+1,hk,h1,h2=>by
  have hx:p x=true:=h1 x (by simp)
  rw [List.takeWhile_cons,hx]
  simp only [if_true,List.length_cons]
  rw [tw_len p l k (by simpa using hk) (fun y hy=>h1 y (by simp [hy])) (fun h=>by have:=h2 (by simpa using h);simpa using this)]
theorem put_pure (l:List ByteArray) (s:ByteArray) (hl:l.length≤1000000000) :
  PCalls Try.prog 26 [.c (.sl 1 (l.map strD)),.c (.v (.string s))] [] fun r os=>r = .c (.sl 1 ((putM l s).map strD))∧os=[]:=by
 refine pcalls_of Try.func26 rfl (by simp [Try.ntmps26]) ?_
 rw [Try.ntmps26,Try.results26]
 push_cast [iO,tN]
 repeat' (first|((first|refine pG ?_|refine pQ ?_|refine pU ?_);push_cast [iO,tN])|(refine pif (fun h=>?_) (fun h=>?_)<;>first|exact pN h|push_cast [iO,tN]))
 refine pwp_loop2 (α:=Nat) (fun k=>k≤l.length∧∀ x ∈ l.take k,bless x s=true) (fun k=>⟨[(5,.c (.v (.int .i64 k))),(4,.c (.v (.slice none 0 0))),(0,.c (.sl 1 (l.map strD))),(1,.c (.v (.string s)))],[]⟩) (fun k=>l.length - k) 0 ⟨by omega,by simp⟩ (by (refine weak_fg ?_;push_cast [iO,tN])) ?_
 rintro k ⟨hk,hpre⟩
 by_cases hlt:k < l.length
 ·have e1:=getD_lt l hlt
  cases hb:bless (l.getD k default) s
  ·have hi:(l.takeWhile fun x=>bless x s).length=k:=tw_len _ l k hk hpre (fun h=>by rw [← e1];exact hb)
   by_cases he:l.getD k default=s
   ·repeat' (first|((first|refine pG ?_|refine pQ ?_|refine pU ?_);push_cast [iO,tN])|(refine pif (fun h=>?_) (fun h=>?_)<;>first|exact pN h|push_cast [iO,tN]))
    (refine retK_of [] ?_;push_cast [iO,tN])
    have:putM l s=l:=by simp only [putM,hi];rw [if_pos ⟨he,hlt⟩]
    simp [this]
   ·have hp:putM l s=l.take k++s :: l.drop k:=by simp only [putM,hi];rw [if_neg (fun h=>he h.1)]
    repeat' (first |  ((refine pwp_drawn (by kernel_rfl) ?_;simp only [List.length_cons,List.length_nil,Nat.reduceAdd];repeat' first|((first|refine pah 0 ?_|refine pah 1 ?_|refine pah 2 ?_|refine pah 3 ?_|refine pah 4 ?_|refine pah 5 ?_|refine pah 6 ?_|refine pah 7 ?_|refine pah 8 ?_|refine pah 9 ?_|refine pah 10 ?_|refine pah 11 ?_);push_cast [iO,tN])|(refine pad ?_;try push_cast [iO,tN])|((first|refine pas [0] ?_|refine pas [1] ?_|refine pas [2] ?_|refine pas [3] ?_|refine pas [4] ?_|refine pas [5] ?_|refine pas [6] ?_|refine pas [7] ?_|refine pas [8] ?_|refine pas [9] ?_|refine pas [10] ?_|refine pas [11] ?_);push_cast [iO,tN])|((first|refine pas [0,1] ?_|refine pas [0,2] ?_|refine pas [0,3] ?_|refine pas [0,4] ?_|refine pas [0,5] ?_|refine pas [0,6] ?_|refine pas [0,7] ?_|refine pas [0,8] ?_|refine pas [0,9] ?_|refine pas [0,10] ?_|refine pas [0,11] ?_|refine pas [1,2] ?_|refine pas [1,3] ?_|refine pas [1,4] ?_|refine pas [1,5] ?_|refine pas [1,6] ?_|refine pas [1,7] ?_|refine pas [1,8] ?_|refine pas [1,9] ?_|refine pas [1,10] ?_|refine pas [1,11] ?_|refine pas [2,3] ?_|refine pas [2,4] ?_|refine pas [2,5] ?_|refine pas [2,6] ?_|refine pas [2,7] ?_|refine pas [2,8] ?_|refine pas [2,9] ?_|refine pas [2,10] ?_|refine pas [2,11] ?_|refine pas [3,4] ?_|refine pas [3,5] ?_|refine pas [3,6] ?_|refine pas [3,7] ?_|refine pas [3,8] ?_|refine pas [3,9] ?_|refine pas [3,10] ?_|refine pas [3,11] ?_|refine pas [4,5] ?_|refine pas [4,6] ?_|refine pas [4,7] ?_|refine pas [4,8] ?_|refine pas [4,9] ?_|refine pas [4,10] ?_|refine pas [4,11] ?_|refine pas [5,6] ?_|refine pas [5,7] ?_|refine pas [5,8] ?_|refine pas [5,9] ?_|refine pas [5,10] ?_|refine pas [5,11] ?_|refine pas [6,7] ?_|refine pas [6,8] ?_|refine pas [6,9] ?_|refine pas [6,10] ?_|refine pas [6,11] ?_|refine pas [7,8] ?_|refine pas [7,9] ?_|refine pas [7,10] ?_|refine pas [7,11] ?_|refine pas [8,9] ?_|refine pas [8,10] ?_|refine pas [8,11] ?_|refine pas [9,10] ?_|refine pas [9,11] ?_|refine pas [10,11] ?_);push_cast [iO,tN];refine ⟨?_,?_⟩)))  | ((first|refine pG ?_|refine pQ ?_|refine pU ?_);push_cast [iO,tN])|(refine pif (fun h=>?_) (fun h=>?_)<;>first|exact pN h|push_cast [iO,tN]))
    all_goals (refine retK_of [] ?_;push_cast [iO,tN])
    all_goals rw [hp]
    all_goals simp [strD]
    all_goals (refine List.take_of_length_le ?_;simp;omega)
  ·repeat' (first|((first|refine pG ?_|refine pQ ?_|refine pU ?_);push_cast [iO,tN])|(refine pif (fun h=>?_) (fun h=>?_)<;>first|exact pN h|push_cast [iO,tN]))
   refine ⟨k+1,⟨by omega,?_⟩,by (refine weak_fg ?_;push_cast [iO,tN]),by omega⟩
   rw [List.take_succ_eq_append_getElem hlt]
   intro x hx
   rcases List.mem_append.1 hx with hx|hx
   ·exact hpre x hx
   ·simp only [List.mem_singleton] at hx
    rw [hx,← e1]
    exact hb
 ·have hi:(l.takeWhile fun x=>bless x s).length=k:=tw_len _ l k hk hpre (fun h=>absurd h hlt)
  have hp:putM l s=l.take k++s :: l.drop k:=by simp only [putM,hi];rw [if_neg (fun h=>hlt h.2)]
  repeat' (first |  ((refine pwp_drawn (by kernel_rfl) ?_;simp only [List.length_cons,List.length_nil,Nat.reduceAdd];repeat' first|((first|refine pah 0 ?_|refine pah 1 ?_|refine pah 2 ?_|refine pah 3 ?_|refine pah 4 ?_|refine pah 5 ?_|refine pah 6 ?_|refine pah 7 ?_|refine pah 8 ?_|refine pah 9 ?_|refine pah 10 ?_|refine pah 11 ?_);push_cast [iO,tN])|(refine pad ?_;try push_cast [iO,tN])|((first|refine pas [0] ?_|refine pas [1] ?_|refine pas [2] ?_|refine pas [3] ?_|refine pas [4] ?_|refine pas [5] ?_|refine pas [6] ?_|refine pas [7] ?_|refine pas [8] ?_|refine pas [9] ?_|refine pas [10] ?_|refine pas [11] ?_);push_cast [iO,tN])|((first|refine pas [0,1] ?_|refine pas [0,2] ?_|refine pas [0,3] ?_|refine pas [0,4] ?_|refine pas [0,5] ?_|refine pas [0,6] ?_|refine pas [0,7] ?_|refine pas [0,8] ?_|refine pas [0,9] ?_|refine pas [0,10] ?_|refine pas [0,11] ?_|refine pas [1,2] ?_|refine pas [1,3] ?_|refine pas [1,4] ?_|refine pas [1,5] ?_|refine pas [1,6] ?_|refine pas [1,7] ?_|refine pas [1,8] ?_|refine pas [1,9] ?_|refine pas [1,10] ?_|refine pas [1,11] ?_|refine pas [2,3] ?_|refine pas [2,4] ?_|refine pas [2,5] ?_|refine pas [2,6] ?_|refine pas [2,7] ?_|refine pas [2,8] ?_|refine pas [2,9] ?_|refine pas [2,10] ?_|refine pas [2,11] ?_|refine pas [3,4] ?_|refine pas [3,5] ?_|refine pas [3,6] ?_|refine pas [3,7] ?_|refine pas [3,8] ?_|refine pas [3,9] ?_|refine pas [3,10] ?_|refine pas [3,11] ?_|refine pas [4,5] ?_|refine pas [4,6] ?_|refine pas [4,7] ?_|refine pas [4,8] ?_|refine pas [4,9] ?_|refine pas [4,10] ?_|refine pas [4,11] ?_|refine pas [5,6] ?_|refine pas [5,7] ?_|refine pas [5,8] ?_|refine pas [5,9] ?_|refine pas [5,10] ?_|refine pas [5,11] ?_|refine pas [6,7] ?_|refine pas [6,8] ?_|refine pas [6,9] ?_|refine pas [6,10] ?_|refine pas [6,11] ?_|refine pas [7,8] ?_|refine pas [7,9] ?_|refine pas [7,10] ?_|refine pas [7,11] ?_|refine pas [8,9] ?_|refine pas [8,10] ?_|refine pas [8,11] ?_|refine pas [9,10] ?_|refine pas [9,11] ?_|refine pas [10,11] ?_);push_cast [iO,tN];refine ⟨?_,?_⟩)))  | ((first|refine pG ?_|refine pQ ?_|refine pU ?_);push_cast [iO,tN])|(refine pif (fun h=>?_) (fun h=>?_)<;>first|exact pN h|push_cast [iO,tN]))
  all_goals (refine retK_of [] ?_;push_cast [iO,tN])
  all_goals rw [hp]
  all_goals simp [strD]
  all_goals (refine List.take_of_length_le ?_;simp;omega)
set_option maxRecDepth 20000
def putAll (l xs:List ByteArray):List ByteArray:=xs.foldl putM l
theorem putAll_snoc (l xs:List ByteArray) (y:ByteArray):putAll l (xs++[y])=putM (putAll l xs) y:=by simp [putAll]
theorem putAll_spec:∀ (xs l:List ByteArray),asc l → asc (putAll l xs)∧(∀ x,x ∈ putAll l xs ↔ x ∈ l∨x ∈ xs)∧l.length≤(putAll l xs).length∧((putAll l xs).length=l.length → putAll l xs=l)∧(putAll l xs).length≤l.length+xs.length
 | [],l,h=>⟨h,by simp [putAll],Nat.le_refl _,fun _=>rfl,by simp [putAll]⟩
 | y :: xs,l,h=>by
  obtain ⟨h1,h2,h3,h4,h5⟩:=putAll_spec xs (putM l y) (put_asc h)
  have hl:=put_len (s:=y) h
  have e:putAll l (y :: xs)=putAll (putM l y) xs:=rfl
  rw [e]
  refine ⟨h1,fun x=>?_,?_,fun he=>?_,?_⟩
  ·rw [h2,putA_mem h,List.mem_cons]
   constructor
   ·rintro ((h|h)|h)
    ·exact .inl h
    ·exact .inr (.inl h)
    ·exact .inr (.inr h)
   ·rintro (h|h|h)
    ·exact .inl (.inl h)
    ·exact .inl (.inr h)
    ·exact .inr h
  ·split at hl<;>omega
  ·split at hl
   ·rename_i hm
    rw [h4 (by omega),put_old h (inM_iff.1 hm)]
   ·omega
  ·simp only [List.length_cons]
   split at hl<;>omega
theorem texts_rd {w:World} {I:Nat → Prop}:∀ (l:List ByteArray) (vs:List Value),All2 (RD w I) (l.map strD).flatten vs → vs=l.map Value.string
 | [],vs,h=>by simpa [All2.nil_l] using h
 | a :: l,vs,h=>by
  simp only [List.map_cons,List.flatten_cons,strD,List.cons_append,List.nil_append] at h
  obtain ⟨y,vs',rfl,h5,h6⟩:=All2.cons_l.1 h
  rw [RD] at h5
  rw [h5.1,texts_rd l vs' h6];rfl
theorem rd_texts {w:World} {I:Nat → Prop}:∀ (l:List ByteArray),All2 (RD w I) (l.map strD).flatten (l.map Value.string)
 | []=>trivial
 | a :: l=>⟨by rw [RD];exact ⟨rfl,rfl⟩,rd_texts l⟩
open Go.Sort Go.Lib in
theorem put_texts {Γ:G} {w:World} {l:List ByteArray} {rest:List Ob} (hm:MemOk Γ (.arr 9 1 (l.map strD) :: rest) w) (hc:0 < Γ.cap 0) (hl:0 < l.length) :
  Γ.β 0 < w.heap.size∧Holds encStr w (Γ.β 0) 0 (l.map (·.data.toList)).toArray∧l.length≤Γ.cap 0∧∀ (q:Nat) (gr:Array Obj) (ys:List (List UInt8)),ys.length=l.length →
   MemOk Γ (.arr 9 1 ((ys.map unB).map strD) :: rest) (grow (putRow encStr (Sort.ahead w q) (Γ.β 0) 0 ys.toArray) gr)∧Grow (rest.length+1) Γ w Γ (grow (putRow encStr (Sort.ahead w q) (Γ.β 0) 0 ys.toArray) gr):=by
 have hk:0 < Γ.n:=by rw [hm.n];simp
 obtain ⟨h1,h2,h3,h4⟩:=hm.ob 0 _ rfl
 obtain ⟨cur,hb,hs,hle,hmx,hrd⟩:=h4 hc
 have hcur:cur.toList.take (l.length * 1)=(l.map (·.data.toList)).map Go.Proofs.encStr:=by
  rw [map_encStr]
  have:=texts_rd _ _ hrd
  simpa using this
 have hle':l.length≤Γ.cap 0:=by simpa using hle
 have hown:w.ownsRow 0 9 1 (.slice (some ⟨Γ.β 0,0,none⟩) l.length (Γ.cap 0)) l.length ((l.map (·.data.toList)).map encStr) :=
  ⟨by simp,.inr ⟨Γ.β 0,Γ.cap 0,cur,rfl,Nat.zero_le _,hb,hle',hmx,hs,hcur⟩⟩
 obtain ⟨g,cap,e,_,i2,_,_,_,i6⟩:=holds_of_ownsRow hown (by simp)
 injection e with e1 e2 e3
 injection e1 with e1
 injection e1 with e1
 subst e1
 refine ⟨i2,i6,hle',fun q gr ys hy=>?_⟩
 have ho:=ownsRow_putRow (q:=q) (k:=l.length) hown hy (Nat.le_refl _)
 rw [List.take_of_length_le (by omega)] at ho
 have hsz:(putRow encStr (Sort.ahead w q) (Γ.β 0) 0 ys.toArray).heap.size=w.heap.size:=by simp [Sort.ahead]
 have hog:(grow (putRow encStr (Sort.ahead w q) (Γ.β 0) 0 ys.toArray) gr).ownsRow 0 9 1 (.slice (some ⟨Γ.β 0,0,none⟩) l.length (Γ.cap 0)) l.length (ys.map encStr):=by
  refine ⟨ho.1,?_⟩
  rcases ho.2 with ⟨e,_⟩|⟨g',cap',cur',e,k1,k2,k3,k4,k5,k6⟩
  ·cases e
  ·refine .inr ⟨g',cap',cur',e,k1,?_,k3,k4,k5,k6⟩
   injection e with e1
   injection e1 with e1
   injection e1 with e1
   subst e1
   simp only [grow]
   rw [Array.getElem?_append_left (by rw [hsz];exact i2)]
   exact k2
 obtain ⟨b,c,e,_,_,_,_,_,hro⟩:=arr_of_own (k:=0) (Γ:=Γ) (rows:=(ys.map unB).map strD) hog hl (by omega) (fun r hr=>by obtain ⟨z,_,rfl⟩:=List.mem_map.1 hr;rfl) (by simp [hy])
 injection e with e1 e2 e3
 injection e1 with e1
 injection e1 with e1
 subst e1 e3
 have hE:Ext (· = Γ.β 0) w (grow (putRow encStr (Sort.ahead w q) (Γ.β 0) 0 ys.toArray) gr):=by
  refine ⟨rfl,rfl,rfl,by simp [grow,hsz],fun k hk' hne=>?_⟩
  simp only [grow]
  rw [Array.getElem?_append_left (by rw [hsz];exact hk')]
  simp only [putRow,mapBlock,Sort.ahead,Array.getElem?_modify]
  rw [if_neg (fun h=>hne h.symm)]
 have hro':=hro Γ rfl rfl (by
  have:ys.map encStr=(ys.map unB).map Value.string:=by rw [List.map_map];exact List.map_congr_left fun x _=>by simp [encStr,unB]
  rw [this]
  exact rd_texts _)
 exact ⟨(hm.set_ hk hc hE _ hro').1,grow_set hk hc hE⟩
open Go.Sort Go.Lib in
theorem sort_pure (l:List ByteArray) (rest:List Ob) (hl:l.length≤1000000) :
  PCalls Try.prog 27 [.c (.own 0 l.length)] (.arr 9 1 (l.map strD) :: rest) fun r os=>r = .undef∧os = .arr 9 1 (((l.map (·.data.toList)).mergeSort fun x y=>decide (x≤y)).map unB |>.map strD) :: rest:=by
 unfold PCalls
 intro Γ w xs hm hx
 obtain ⟨y,m',rfl,h1,h2⟩:=All2.cons_l.1 hx
 rw [All2.nil_l] at h2
 subst h2
 rcases Nat.eq_zero_or_pos l.length with h0|h0
 ·have:l=[]:=List.eq_nil_of_length_eq_zero h0
  subst this
  have hy:∃ A c,y = .slice A 0 c:=by
   rcases h1.2 with ⟨_,⟨A,e⟩,_⟩|⟨_,e,_⟩
   ·exact ⟨A,0,e⟩
   ·exact ⟨_,_,e⟩
  obtain ⟨A,c,rfl⟩:=hy
  refine (AnyM.slices_Sort_string_none laysSlM6_f27 A c w).mono ?_
  rintro e w' ⟨rfl,rfl⟩
  exact ⟨_,_,Γ,_,rfl,⟨rfl,rfl⟩,rfl,by simp,by simpa using hm,Grow.refl _ _ _⟩
 ·rcases h1.2 with ⟨_,_,h3⟩|⟨hc,rfl,hle⟩
  ·omega
  ·obtain ⟨i1,i2,i3,i4⟩:=put_texts hm hc h0
   have:=AnyM.slices_Sort_string laysSlM6_f27 (Γ.β 0) 0 (Γ.cap 0) (l.map (·.data.toList)) w i2 i1 (by simp;omega)
   rw [List.length_map] at this
   refine this.mono ?_
   rintro e w' ⟨rfl,n,gr,rfl⟩
   obtain ⟨j1,j2⟩:=i4 n gr ((l.map (·.data.toList)).mergeSort fun x y=>decide (x≤y)) (by rw [(List.mergeSort_perm _ _).length_eq,List.length_map])
   exact ⟨_,_,Γ,_,rfl,⟨rfl,rfl⟩,rfl,by simp,j1,j2⟩
open Go.Sort Go.Lib in
theorem compact_pure (l:List ByteArray) (rest:List Ob) (hl:l.length≤1000000) :
  PCalls Try.prog 28 [.c (.own 0 l.length)] (.arr 9 1 (l.map strD) :: rest) fun r os=>∃ m:List ByteArray,r = .c (.own 0 (Lib.compact (l.map (·.data.toList))).length)∧os = .arr 9 1 (((Lib.compact (l.map (·.data.toList))).map unB++m).map strD) :: rest:=by
 unfold PCalls
 intro Γ w xs hm hx
 obtain ⟨y,m',rfl,h1,h2⟩:=All2.cons_l.1 hx
 rw [All2.nil_l] at h2
 subst h2
 have hn0:0 < Γ.n:=by rw [hm.n];simp
 rcases Nat.eq_zero_or_pos l.length with h0|h0
 ·have:l=[]:=List.eq_nil_of_length_eq_zero h0
  subst this
  have hy:∃ A c,y = .slice A 0 c:=by
   rcases h1.2 with ⟨_,⟨A,e⟩,_⟩|⟨_,e,_⟩
   ·exact ⟨A,0,e⟩
   ·exact ⟨_,_,e⟩
  obtain ⟨A,c,rfl⟩:=hy
  refine (slices_Compact_string_empty A c w).mono ?_
  rintro e w' ⟨rfl,rfl⟩
  have e0:Lib.compact ([]:List (List UInt8))=[]:=rfl
  exact ⟨_,_,Γ,_,rfl,⟨[],rfl,rfl⟩,by simpa [e0] using h1,by simp,by simpa [e0] using hm,Grow.refl _ _ _⟩
 ·rcases h1.2 with ⟨_,_,h3⟩|⟨hc,rfl,hle⟩
  ·omega
  ·obtain ⟨i1,i2,i3,i4⟩:=put_texts hm hc h0
   have:=slices_Compact_string (Γ.β 0) 0 (Γ.cap 0) (l.map (·.data.toList)) w i2 (by simp;omega) (by simpa using hle)
   rw [List.length_map] at this
   refine this.mono ?_
   rintro e w' ⟨rfl,n,rfl⟩
   have hcl:(Lib.compact (l.map (·.data.toList))).length≤l.length:=by have:=Lib.compact_length_le (l.map (·.data.toList));simpa using this
   obtain ⟨j1,j2⟩:=i4 n #[] (Lib.compact (l.map (·.data.toList))++List.replicate (l.length - (Lib.compact (l.map (·.data.toList))).length) []) (by simp;omega)
   have hg:∀ w:World,grow w #[]=w:=fun w=>by simp [grow]
   rw [hg] at j1 j2
   refine ⟨_,_,Γ,_,rfl,⟨(List.replicate (l.length - (Lib.compact (l.map (·.data.toList))).length) []).map unB,rfl,rfl⟩,⟨hn0,.inr ⟨hc,rfl,by omega⟩⟩,by simp,?_,j2⟩
   rw [← List.map_append]
   exact j1
theorem compactUpTo_spec (zs:List (List UInt8)) (h:zs.Pairwise fun x y=>x≤y):∀ m,m≤zs.length → (Lib.compactUpTo zs.toArray m).Pairwise (· < ·)∧∀ x,x ∈ Lib.compactUpTo zs.toArray m ↔ x ∈ zs.take m
 | 0,_=>by simp [Lib.compactUpTo]
 | m+1,hm=>by
  obtain ⟨i1,i2⟩:=compactUpTo_spec zs h m (by omega)
  have hg:zs.toArray[m]! = zs[m]:=by simp [getElem!_pos,show m < zs.length by omega]
  have hp:=List.pairwise_iff_getElem.1 h
  rw [Lib.compactUpTo_succ,List.take_succ_eq_append_getElem (by omega),hg]
  cases hk:Lib.keeps zs.toArray m with
  | true =>
   rw [if_pos rfl]
   refine ⟨List.pairwise_append.2 ⟨i1,by simp,fun a ha b hb=>?_⟩,fun x=>by rw [List.mem_append,List.mem_append,i2]⟩
   simp only [List.mem_singleton] at hb
   subst hb
   obtain ⟨i,hi,rfl⟩:=List.getElem_of_mem ((i2 a).1 ha)
   rw [List.length_take] at hi
   rw [List.getElem_take]
   have hle:=hp i m (by omega) (by omega) (by omega)
   rcases Decidable.em (zs[i] < zs[m]) with h5|h5
   ·exact h5
   ·exfalso
    have he:=List.le_antisymm hle (List.not_lt.1 h5)
    simp only [Lib.keeps,decide_eq_true_eq] at hk
    rcases hk with hk|hk
    ·omega
    ·rw [hg,show zs.toArray[m - 1]! = zs[m - 1] by simp [getElem!_pos,show m - 1 < zs.length by omega]] at hk
     have h6:=hp (m - 1) m (by omega) (by omega) (by omega)
     rcases Nat.lt_or_ge i (m - 1) with h7|h7
     ·have h8:=hp i (m - 1) (by omega) (by omega) h7
      rw [he] at h8
      exact hk (List.le_antisymm h8 h6)
     ·have:i=m - 1:=by omega
      subst this
      exact hk he.symm
  | false =>
   simp only [Bool.false_eq_true,if_false,List.append_nil]
   refine ⟨i1,fun x=>?_⟩
   rw [i2,List.mem_append,List.mem_singleton]
   refine ⟨.inl,fun hx=>hx.elim id fun hx=>?_⟩
   subst hx
   simp only [Lib.keeps,decide_eq_false_iff_not,not_or,Decidable.not_not] at hk
   obtain ⟨hk0,hk1⟩:=hk
   rw [hg,show zs.toArray[m - 1]! = zs[m - 1] by simp [getElem!_pos,show m - 1 < zs.length by omega]] at hk1
   rw [hk1,List.mem_iff_getElem]
   exact ⟨m - 1,by rw [List.length_take];omega,by rw [List.getElem_take]⟩
def ascOf (l:List ByteArray):List ByteArray:=(Lib.compact ((l.map (·.data.toList)).mergeSort fun x y=>decide (x≤y))).map unB
theorem ascOf_spec (l:List ByteArray):asc (ascOf l)∧(∀ x,x ∈ ascOf l ↔ x ∈ l)∧(ascOf l).length≤l.length:=by
 have h1:((l.map (·.data.toList)).mergeSort fun x y=>decide (x≤y)).Pairwise fun x y=>x≤y :=
  (List.pairwise_mergeSort (le:=fun x y=>decide (x≤y)) (fun a b c h1 h2=>by simp only [decide_eq_true_eq] at *;exact List.le_trans h1 h2) (fun a b=>by simp only [Bool.or_eq_true,decide_eq_true_eq];exact List.le_total a b) _).imp fun h=>by simpa using h
 obtain ⟨i1,i2⟩:=compactUpTo_spec _ h1 _ (Nat.le_refl _)
 rw [List.take_length] at i2
 refine ⟨?_,fun x=>?_,?_⟩
 ·rw [asc,ascOf,List.pairwise_map]
  refine i1.imp fun {a b} h=>?_
  rw [bless_lt,ByteArray.toList_eq,ByteArray.toList_eq,list_unB,list_unB]
  exact h
 ·rw [ascOf,List.mem_map]
  constructor
  ·rintro ⟨y,h,rfl⟩
   have:=(List.mergeSort_perm _ _).mem_iff.1 ((i2 y).1 h)
   obtain ⟨z,hz,rfl⟩:=List.mem_map.1 this
   exact hz
  ·intro h
   exact ⟨x.data.toList,(i2 _).2 ((List.mergeSort_perm _ _).mem_iff.2 (List.mem_map.2 ⟨x,h,rfl⟩)),unB_list x⟩
 ·rw [ascOf,List.length_map]
  refine Nat.le_trans (Lib.compact_length_le _) ?_
  rw [(List.mergeSort_perm _ _).length_eq,List.length_map]
  exact Nat.le_refl _
end Go.Proofs.Ythhfpcbpiphfiaa
