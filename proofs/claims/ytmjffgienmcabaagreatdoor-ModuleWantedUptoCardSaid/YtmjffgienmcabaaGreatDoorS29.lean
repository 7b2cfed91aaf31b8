/- What the program computes, and the plain laws of it, part 29. -/
import Derived.Test.YtmjffgienmcabaaGreatDoorS28
namespace Go.Proofs.YtmjffgienmcabaaGreatDoor
attribute [local irreducible] PL QL PWPr PCalls Weak RetK Kontr PA
open Go.RowKit
open IntWalk renaming iteOmega → iO, toNatUp → tN
set_option linter.unusedVariables false
set_option linter.unusedSimpArgs false
set_option maxRecDepth 20000
def ixOs (E:List Ent):List Ob:=[.map none false (idxD E),.box 97 [.mp 0]]
theorem mget_rows (k:MK):∀ l:HRows,(mget (rowsD 2 l) k=none∧rowsAt l k=[])∨mget (rowsD 2 l) k=some [.sl 2 (rowsAt l k)]
 | []=>.inl ⟨rfl,rfl⟩
 | (a,x) :: l=>by
  have ih:=mget_rows k l
  by_cases h:a=k
  ·right
   simp [rowsD,mget,rowsAt,h]
  ·simp only [rowsD,List.map_cons,mget,rowsAt,h,if_false] at ih ⊢
   exact ih
theorem mget_idx (E:List Ent) (b:ByteArray):(mget (idxD E) (.s b)=none∧entAt E b=[])∨mget (idxD E) (.s b)=some [.sl 2 ((entAt E b).map Ent.d)]:=by
 have h:=mget_rows (.s b) (idxOf E)
 rw [rowsAt_idx] at h
 rcases h with ⟨h1,h2⟩|h
 ·exact .inl ⟨h1,List.map_eq_nil_iff.1 h2⟩
 ·exact .inr h
def findN (E:List Ent) (s:ByteArray):List ByteArray:=if s=⟨#[]⟩ then [] else ascOf (foundN E s (s.size+1))
def atJ (E:List Ent) (s b:ByteArray) (j:Nat):List ByteArray:=(((entAt E b).take j).filter fun y=>matchM y.pat s).map Ent.mod
theorem atJ_next {E:List Ent} {s b:ByteArray} {j:Nat} (hj:j < (entAt E b).length):atJ E s b (j+1)=atJ E s b j++if matchM ((entAt E b).getD j default).pat s=true then [((entAt E b).getD j default).mod] else []:=by
 unfold atJ
 rw [List.take_succ_eq_append_getElem hj,List.filter_append,List.map_append,getD_lt _ hj]
 congr 1
 by_cases h:matchM (entAt E b)[j].pat s=true
 ·simp [h]
 ·simp [h]
theorem foundN_next (E:List Ent) (s:ByteArray) (n:Nat):foundN E s (n+1)=foundN E s n++atJ E s (s.extract 0 n) (entAt E (s.extract 0 n)).length:=by
 unfold atJ
 rw [List.take_length]
 rfl
theorem entAt_len (E:List Ent) (b:ByteArray):(entAt E b).length≤E.length:=List.length_filter_le _ _
theorem filt_add {α:Type} (p q r:α → Bool) (hp:∀ x,p x=true → r x=true) (hq:∀ x,q x=true → r x=true) (hd:∀ x,p x=true → q x=true → False):∀ l:List α,(l.filter p).length+(l.filter q).length≤(l.filter r).length
 | []=>by simp
 | a :: l=>by
  have ih:=filt_add p q r hp hq hd l
  cases h1:p a with
  | true =>
   cases h2:q a with
   | true=>exact (hd a h1 h2).elim
   | false =>
    rw [List.filter_cons_of_pos h1,List.filter_cons_of_neg (by simp [h2]),List.filter_cons_of_pos (hp a h1)]
    simp only [List.length_cons]
    omega
  | false =>
   cases h2:q a with
   | true =>
    rw [List.filter_cons_of_neg (by simp [h1]),List.filter_cons_of_pos h2,List.filter_cons_of_pos (hq a h2)]
    simp only [List.length_cons]
    omega
   | false =>
    rw [List.filter_cons_of_neg (by simp [h1]),List.filter_cons_of_neg (by simp [h2])]
    cases h3:r a with
    | true=>rw [List.filter_cons_of_pos h3];simp only [List.length_cons];omega
    | false=>rw [List.filter_cons_of_neg (by simp [h3])];exact ih
theorem ext_size {s:ByteArray} {n:Nat} (h:n≤s.size):(s.extract 0 n).size=n:=by rw [ByteArray.size_extract];omega
theorem found_len (E:List Ent) (s:ByteArray):∀ n,n≤s.size+1 → (foundN E s n).length≤(E.filter fun y=>decide ((prefB y.pat).size < n)).length
 | 0,_=>by simp [foundN]
 | n+1,h=>by
  have ih:=found_len E s n (by omega)
  unfold foundN
  rw [List.length_append,List.length_map]
  have h1:=List.length_filter_le (fun y=>matchM y.pat s) (entAt E (s.extract 0 n))
  have h2:=filt_add (fun y:Ent=>decide ((prefB y.pat).size < n)) (fun y=>decide (globM y.pat=0) && decide (prefB y.pat=s.extract 0 n)) (fun y=>decide ((prefB y.pat).size < n+1)) (fun x hx=>by rw [decide_eq_true_eq] at hx ⊢;omega) (fun x hx=>by
   rw [Bool.and_eq_true,decide_eq_true_eq,decide_eq_true_eq] at hx
   rw [decide_eq_true_eq,hx.2,ext_size (by omega)]
   omega) (fun x hx hy=>by
   rw [Bool.and_eq_true,decide_eq_true_eq,decide_eq_true_eq] at hy
   rw [decide_eq_true_eq,hy.2,ext_size (by omega)] at hx
   omega) E
  unfold entAt at h1 ⊢
  omega
theorem found_few (E:List Ent) (s:ByteArray) {n:Nat} (h:n≤s.size+1):(foundN E s n).length≤E.length:=Nat.le_trans (found_len E s n h) (List.length_filter_le _ _)
set_option maxHeartbeats 8000000 in
theorem find_pure (E:List Ent) (s:ByteArray) (hE:E.length≤10100) (hp:∀ y ∈ E,y.pat.size≤1000000000) (hs:s.size≤9000000000000000000) :
  PCalls Tryz.prog 27 [.c (.ptr 1 0),.c (.v (.string s))] (ixOs E) fun r os=>r = .c (.sl 1 ((findN E s).map strD))∧os=ixOs E:=by
 unfold ixOs
 refine pcalls_of Tryz.func27 rfl (by simp [Tryz.ntmps27]) ?_
 rw [Tryz.ntmps27,Tryz.results27]
 push_cast [iO,tN]
 have cB:CutB 9 [13,14,24,25,26]:=trivial
 by_cases hs0:s=⟨#[]⟩
 ·have hR:findN E s=[]:=by unfold findN;rw [if_pos hs0]
  subst hs0
  repeat' (first|((first|refine pC ?_|refine pQC ?_|refine pU ?_);push_cast [iO,tN])|(refine pif (fun h=>?_) (fun h=>?_)<;>first|exact pN h|push_cast [iO,tN]))
  (refine retK_of [0,1] ?_;push_cast [iO,tN,hR])
 have hR:findN E s=ascOf (foundN E s (s.size+1)):=by unfold findN;rw [if_neg hs0]
 repeat' (first|((first|refine pC ?_|refine pQC ?_|refine pU ?_);push_cast [iO,tN,hs0])|(refine pif (fun h=>?_) (fun h=>?_)<;>first|exact pN h|push_cast [iO,tN,hs0]))
 refine pwp_weak (weak_adopt 5 9 1 (by omega) (by push_cast [iO,tN])) ?_
 push_cast [iO,tN]
 (apply pwp_loop3 (α:=Nat × List ByteArray) 9 [13,14,24,25,26] (fun x=>[(14,.c (.v (.int .i64 x.1))),(5,.c (.own 2 (x.2.length)))]) (fun x=>[(2,.arr 9 1 (x.2.map strD))]) (fun x=>x.1≤s.size+1∧x.2=foundN E s x.1) (fun x=>s.size+1 - x.1) ((0,[]));(focus ((try push_cast [iO,tN]);rfl));(focus exact ⟨by omega,rfl⟩);(focus ((refine weak_fg ?_;try push_cast [iO,tN]))))
 rintro ⟨n,l⟩ ⟨hn,hl⟩
 simp only at hn hl ⊢
 have hll:l.length≤10100:=by rw [hl];exact Nat.le_trans (found_few E s hn) hE
 push_cast [iO,tN]
 by_cases hlt:n < s.size+1
 ·have hnx:=foundN_next E s n
  have hel:=entAt_len E (s.extract 0 n)
  have hix:=mget_idx E (s.extract 0 n)
  have hmem:∀ y ∈ entAt E (s.extract 0 n),y ∈ E:=fun y hy=>(List.mem_filter.1 hy).1
  rcases hix with ⟨h1,h2⟩|h1
  ·have hnx2:l=foundN E s (n+1):=by rw [hnx,h2,hl];simp [atJ,h2]
   repeat' (first|((first|refine pC ?_|refine pQC ?_|refine pU ?_);push_cast [iO,tN,h1])|(refine pif (fun h=>?_) (fun h=>?_)<;>first|exact pN h|push_cast [iO,tN,h1]))
   (apply pwp_loop3 (α:=Nat) 9 [13,14,24,25,26] (fun j=>[(26,.c (.v (.int .i64 j)))]) (fun j=>[]) (fun j=>j=0) (fun j=>0 - j) (0);(focus ((try push_cast [iO,tN]);rfl));(focus exact rfl);(focus ((refine weak_fg ?_;try push_cast [iO,tN]))))
   intro j hj
   subst hj
   push_cast [iO,tN]
   repeat' (first|((first|refine pC ?_|refine pQC ?_|refine pU ?_);push_cast [iO,tN])|(refine pif (fun h=>?_) (fun h=>?_)<;>first|exact pN h|push_cast [iO,tN]))
   exact ⟨(n+1,l),⟨by simp only;omega,hnx2⟩,by (refine weak_fg ?_;push_cast [iO,tN]),by simp only;omega⟩
  ·obtain ⟨L,hL⟩:∃ L,entAt E (s.extract 0 n)=L:=⟨_,rfl⟩
   have hnj:=@atJ_next E s (s.extract 0 n)
   rw [hL] at h1 hnx hel hmem hnj
   repeat' (first|((first|refine pC ?_|refine pQC ?_|refine pU ?_);push_cast [iO,tN,h1])|(refine pif (fun h=>?_) (fun h=>?_)<;>first|exact pN h|push_cast [iO,tN,h1]))
   (apply pwp_loop3 (α:=Nat × List ByteArray) 9 [13,14,24,25,26] (fun y=>[(26,.c (.v (.int .i64 y.1))),(5,.c (.own 2 (y.2.length)))]) (fun y=>[(2,.arr 9 1 (y.2.map strD))]) (fun y=>y.1≤L.length∧y.2=l++atJ E s (s.extract 0 n) y.1∧y.2.length≤10100+y.1) (fun y=>L.length - y.1) ((0,l));(focus ((try push_cast [iO,tN]);rfl));(focus exact ⟨by omega,by simp [atJ],by (simp only;omega)⟩);(focus ((refine weak_fg ?_;try push_cast [iO,tN]))))
   rintro ⟨j,l2⟩ ⟨hj,hl2,hlb⟩
   simp only at hj hl2 hlb ⊢
   push_cast [iO,tN]
   by_cases hj2:j < L.length
   ·have hnj2:=hnj hj2
    have hyE:L.getD j default ∈ E:=hmem _ (by rw [getD_lt L hj2];exact List.getElem_mem _)
    obtain ⟨y,hy⟩:∃ y,L.getD j default=y:=⟨_,rfl⟩
    rw [hy] at hnj2 hyE
    have hmt:=match_pure y.pat s (by have:=hp y hyE;omega) hs
    cases hb:matchM y.pat s with
    | true =>
     rw [hb] at hmt
     rw [if_pos hb] at hnj2
     repeat' (first|((refine plc [] (hmt) ?_ ?_;push_cast [iO,tN,hy,Ent.d];rintro r os ⟨rfl,rfl⟩;push_cast [iO,tN,hy,Ent.d]))|((first|refine pC ?_|refine pQC ?_|refine pU ?_);push_cast [iO,tN,hy,Ent.d])|(refine pif (fun h=>?_) (fun h=>?_)<;>first|exact pN h|push_cast [iO,tN,hy,Ent.d]))
     exact ⟨(j+1,l2++[y.mod]),⟨by simp only;omega,by simp only;rw [hnj2,hl2,List.append_assoc],by simp only [List.length_append,List.length_cons,List.length_nil];omega⟩,by (refine weak_fg ?_;push_cast [iO,tN]),by simp only;omega⟩
    | false =>
     rw [hb] at hmt
     rw [if_neg (by simp [hb]),List.append_nil] at hnj2
     repeat' (first|((refine plc [] (hmt) ?_ ?_;push_cast [iO,tN,hy,Ent.d];rintro r os ⟨rfl,rfl⟩;push_cast [iO,tN,hy,Ent.d]))|((first|refine pC ?_|refine pQC ?_|refine pU ?_);push_cast [iO,tN,hy,Ent.d])|(refine pif (fun h=>?_) (fun h=>?_)<;>first|exact pN h|push_cast [iO,tN,hy,Ent.d]))
     exact ⟨(j+1,l2),⟨by simp only;omega,by simp only;rw [hnj2];exact hl2,by simp only;omega⟩,by (refine weak_fg ?_;push_cast [iO,tN]),by simp only;omega⟩
   ·have hj3:j=L.length:=by omega
    rw [hj3,hl,← hnx] at hl2
    repeat' (first|((first|refine pC ?_|refine pQC ?_|refine pU ?_);push_cast [iO,tN])|(refine pif (fun h=>?_) (fun h=>?_)<;>first|exact pN h|push_cast [iO,tN]))
    exact ⟨(n+1,l2),⟨by simp only;omega,hl2⟩,by (refine weak_fg ?_;push_cast [iO,tN]),by simp only;omega⟩
 ·have hn2:n=s.size+1:=by omega
  rw [hn2] at hl
  rw [← hl] at hR
  have hso:=sort2_pure l (by omega)
  repeat' (first |  ((refine plc [2] (hso) ?_ ?_;push_cast [iO,tN];rintro r os ⟨S0,⟨hS1,hS2⟩,rfl,rfl⟩;push_cast [iO,tN]))  | ((first|refine pC ?_|refine pQC ?_|refine pU ?_);push_cast [iO,tN])|(refine pif (fun h=>?_) (fun h=>?_)<;>first|exact pN h|push_cast [iO,tN]))
  have hcp:=compact2_pure S0 (by omega)
  rw [hS1,hS2] at hcp
  have hal:=(ascOf_spec l).2.2
  obtain ⟨R,hRR⟩:∃ R,ascOf l=R:=⟨_,rfl⟩
  rw [hRR] at hcp hR hal
  refine pl_call2 false [2] rfl rfl (by kernel_rfl) hcp ?_ nofun ?_
  ·push_cast [iO,tN]
  push_cast [iO,tN]
  rintro r os ⟨m2,rfl,rfl⟩
  have e2:(R.map strD++m2.map strD).take R.length=R.map strD:=List.take_left' (by simp)
  have e3:((R++m2).map strD).take R.length=R.map strD:=by rw [List.map_append];exact e2
  refine pl_weak (weak_frz 2 (by omega)) ?_
  push_cast [iO,tN,e2,e3]
  refine pl_of_pops ?_
  push_cast [iO,tN]
  repeat' (first|((first|refine pC ?_|refine pQC ?_|refine pU ?_);push_cast [iO,tN])|(refine pif (fun h=>?_) (fun h=>?_)<;>first|exact pN h|push_cast [iO,tN]))
  (refine retK_of [0,1] ?_;push_cast [iO,tN,hR])
end Go.Proofs.YtmjffgienmcabaaGreatDoor
namespace Go.Proofs.YtmjffgienmcabaaGreatDoor
open Go.RowKit
open IntWalk renaming iteOmega → iO, toNatUp → tN
set_option linter.unusedVariables false
set_option linter.unusedSimpArgs false
def HidR (X:Prop):Prop:=X
theorem hidR (id:Nat) {rd:Option Nat} {P:Program} {N p:Nat} {Q:Exit → S → Prop} {s:S} {ops:Array Oper} (h:HidR (PWPr rd P N p (.region id ops true) Q s)):PWPr rd P N p (.region id ops true) Q s:=h
theorem unhid {X:Prop} (h:X):HidR X:=h
attribute [irreducible] HidR
structure Rec where
 path:ByteArray
 index:Int
 props:List Atr
 tags:List ByteArray
 links:List ByteArray
 run:List ByteArray
 load:List ByteArray
 name:ByteArray
 prio:Int
 owner:ByteArray
 group:ByteArray
 mode:Int
 deriving DecidableEq,Inhabited
def Rec.d (r:Rec):List D:=[.v (.string r.path),.v (.int .i64 r.index),.sl 2 (r.props.map Atr.d),.sl 1 (r.tags.map strD),.sl 1 (r.links.map strD),.sl 1 (r.run.map strD),.sl 1 (r.load.map strD),.v (.string r.name),.v (.int .i64 r.prio),.v (.string r.owner),.v (.string r.group),.v (.int .i64 r.mode)]
attribute [push_cast] Rec.d
def devAsk (c:Cfg) (d:Dev):List ByteArray:=findA c d.alias_++[d.driver]
def recAsk (c:Cfg) (ds:List Dev) (r:Rec):List ByteArray:=if ds.any fun d=>decide (d.index=r.index) then r.load.flatMap (findA c) else []
def askedL (c:Cfg) (ds:List Dev) (rs:List Rec):List ByteArray:=ds.flatMap (devAsk c)++rs.flatMap (recAsk c ds)++c.keep
def thereB (c:Cfg) (x:ByteArray):Bool:=(modOf c.modules x).isSome
def seedsL (c:Cfg) (ds:List Dev) (rs:List Rec):List ByteArray:=putAll [] ((askedL c ds rs).filter (thereB c))
theorem seeds_spec (c:Cfg) (ds:List Dev) (rs:List Rec):asc (seedsL c ds rs)∧∀ x,x ∈ seedsL c ds rs ↔ x ∈ askedL c ds rs∧thereB c x=true:=by
 obtain ⟨h1,h2,_⟩:=putAll_spec ((askedL c ds rs).filter (thereB c)) [] List.Pairwise.nil
 exact ⟨h1,fun x=>by unfold seedsL;rw [h2,List.mem_filter];simp⟩
theorem there_mem {c:Cfg} {x:ByteArray} (h:thereB c x=true):x ∈ c.modules.map Mod.name:=there_name (by unfold thereB at h;intro e;rw [e] at h;cases h)
theorem seeds_len (c:Cfg) (ds:List Dev) (rs:List Rec):(seedsL c ds rs).length≤c.modules.length:=by
 obtain ⟨h1,h2⟩:=seeds_spec c ds rs
 have:=nodup_len (seedsL c ds rs) (c.modules.map Mod.name) (asc_nodup h1) fun x hx=>there_mem ((h2 x).1 hx).2
 simpa using this
noncomputable def wantedL (c:Cfg) (ds:List Dev) (rs:List Rec):List ByteArray:=closL c.modules c.off (seedsL c ds rs)
end Go.Proofs.YtmjffgienmcabaaGreatDoor
namespace Go.Proofs.YtmjffgienmcabaaGreatDoor
attribute [local irreducible] PL QL PWPr PCalls Weak RetK Kontr PA
open Go.RowKit
open IntWalk renaming iteOmega → iO, toNatUp → tN
set_option linter.unusedVariables false
set_option linter.unusedSimpArgs false
set_option maxRecDepth 20000
def stT (T S:List ByteArray) (s:ByteArray):List ByteArray:=if inM s T=true then addS S s else S
def addT (T S l:List ByteArray):List ByteArray:=l.foldl (stT T) S
theorem addT_append (T S a b:List ByteArray):addT T S (a++b)=addT T (addT T S a) b:=by unfold addT;rw [List.foldl_append]
theorem addT_next (T S:List ByteArray) {l:List ByteArray} {k:Nat} (hk:k < l.length):addT T S (l.take (k+1))=stT T (addT T S (l.take k)) (l.getD k default):=by
 rw [List.take_succ_eq_append_getElem hk,addT_append,getD_lt l hk];rfl
theorem addT_spec (T:List ByteArray):∀ (l S:List ByteArray),S.Nodup → (addT T S l).Nodup∧∀ x,x ∈ addT T S l ↔ x ∈ S∨(x ∈ l∧x ∈ T)
 | [],S,h=>⟨h,fun x=>by simp [addT]⟩
 | s :: l,S,h=>by
  have h1:(stT T S s).Nodup∧∀ x,x ∈ stT T S s ↔ x ∈ S∨(x=s∧x ∈ T):=by
   unfold stT
   split
   ·rename_i hm
    rw [inM_iff] at hm
    refine ⟨nodup_addS h,fun x=>?_⟩
    rw [mem_addS]
    constructor
    ·rintro (h|rfl)
     ·exact .inl h
     ·exact .inr ⟨rfl,hm⟩
    ·rintro (h|h)
     ·exact .inl h
     ·exact .inr h.1
   ·rename_i hm
    rw [inM_iff] at hm
    refine ⟨h,fun x=>⟨.inl,?_⟩⟩
    rintro (h|⟨rfl,h⟩)
    ·exact h
    ·exact absurd h hm
  obtain ⟨h2,h3⟩:=addT_spec T l (stT T S s) h1.1
  refine ⟨h2,fun x=>?_⟩
  show x ∈ addT T (stT T S s) l ↔ _
  rw [h3,h1.2,List.mem_cons,or_assoc]
  constructor
  ·rintro (h|⟨rfl,h⟩|h)
   ·exact .inl h
   ·exact .inr ⟨.inl rfl,h⟩
   ·exact .inr ⟨.inr h.1,h.2⟩
  ·rintro (h|⟨rfl|h,h'⟩)
   ·exact .inl h
   ·exact .inr (.inl ⟨rfl,h'⟩)
   ·exact .inr (.inr ⟨h,h'⟩)
def addOs (T S:List ByteArray):List Ob:=[.map none false (setE T),.box 67 [.mp 0],.map none false (setE S),.box 67 [.mp 2]]
set_option maxHeartbeats 4000000 in
theorem add_pure (T S l:List ByteArray) (hl:l.length≤9223372036854775806) :
  PCalls Tryz.prog 25 [.c (.sl 1 (l.map strD)),.c (.ptr 1 0),.c (.ptr 3 0)] (addOs T S) fun r os=>r = .undef∧os=addOs T (addT T S l):=by
 unfold addOs
 refine pcalls_of Tryz.func25 rfl (by simp [Tryz.ntmps25]) ?_
 rw [Tryz.ntmps25,Tryz.results25]
 push_cast [iO,tN]
 have cB:CutB 6 [6,7,8]:=trivial
 repeat' (first|((first|refine pC ?_|refine pQC ?_|refine pU ?_);push_cast [iO,tN])|(refine pif (fun h=>?_) (fun h=>?_)<;>first|exact pN h|push_cast [iO,tN]))
 (apply pwp_loop3 (α:=Nat) 6 [6,7,8] (fun k=>[(8,.c (.v (.int .i64 k)))]) (fun k=>[(2,.map none false (setE (addT T S (l.take k))))]) (fun k=>k≤l.length) (fun k=>l.length - k) (0);(focus ((try push_cast [iO,tN]);rfl));(focus exact (by omega));(focus ((refine weak_fg ?_;try push_cast [iO,tN]);(try (rfl)))))
 intro k hk
 push_cast [iO,tN]
 by_cases hlt:k < l.length
 ·have hnx:=addT_next T S hlt
  obtain ⟨s,hs⟩:∃ s,l.getD k default=s:=⟨_,rfl⟩
  rw [hs] at hnx
  unfold stT at hnx
  cases hb:inM s T with
  | true =>
   rw [if_pos hb] at hnx
   repeat' (first|((first|refine pC ?_|refine pQC ?_|refine pU ?_);push_cast [iO,tN,hs,hb])|(refine pif (fun h=>?_) (fun h=>?_)<;>first|exact pN h|push_cast [iO,tN,hs,hb]))
   exact ⟨k+1,by omega,by (refine weak_fg ?_;push_cast [iO,tN,hnx]),by omega⟩
  | false =>
   rw [if_neg (by simp [hb])] at hnx
   repeat' (first|((first|refine pC ?_|refine pQC ?_|refine pU ?_);push_cast [iO,tN,hs,hb])|(refine pif (fun h=>?_) (fun h=>?_)<;>first|exact pN h|push_cast [iO,tN,hs,hb]))
   exact ⟨k+1,by omega,by (refine weak_fg ?_;push_cast [iO,tN,hnx]),by omega⟩
 ·have htk:l.take k=l:=List.take_of_length_le (by omega)
  rw [htk]
  repeat' (first|((first|refine pC ?_|refine pQC ?_|refine pU ?_);push_cast [iO,tN])|(refine pif (fun h=>?_) (fun h=>?_)<;>first|exact pN h|push_cast [iO,tN]))
  (refine retK_of [0,1,2,3] ?_;push_cast [iO,tN])
def setI (l:List Int):List (MK × List D):=l.map fun n=>(.i .i64 n,[.v (.bool true)])
def addI (l:List Int) (n:Int):List Int:=if n ∈ l then l else l++[n]
theorem mem_addI {l:List Int} {n x:Int}:x ∈ addI l n ↔ x ∈ l∨x=n:=by
 unfold addI
 split
 ·rename_i h
  exact ⟨.inl,fun h'=>h'.elim id fun e=>e ▸ h⟩
 ·simp
theorem mget_setI (n:Int):∀ l:List Int,mget (setI l) (.i .i64 n)=if n ∈ l then some [.v (.bool true)] else none
 | []=>rfl
 | a :: l=>by
  have ih:=mget_setI n l
  simp only [setI,List.map_cons,mget,MK.i.injEq,true_and,List.mem_cons] at ih ⊢
  by_cases h:a=n
  ·simp [h]
  ·rw [if_neg h,ih]
   have h':¬ n=a:=fun e=>h e.symm
   simp [h']
theorem mput_setI (n:Int):∀ l:List Int,mput (setI l) (.i .i64 n) [.v (.bool true)]=setI (addI l n)
 | []=>rfl
 | a :: l=>by
  have ih:=mput_setI n l
  by_cases h:a=n
  ·subst h;simp [setI,mput,addI]
  ·have h':¬ n=a:=fun e=>h e.symm
   by_cases hm:n ∈ l
   ·simp only [setI,List.map_cons,mput,MK.i.injEq,true_and,h,if_false,addI,hm,List.mem_cons,or_true,if_true] at ih ⊢
    rw [ih]
   ·simp only [setI,List.map_cons,mput,MK.i.injEq,true_and,h,if_false,addI,hm,List.mem_cons,h',or_self,List.map_append,List.map_nil,List.cons_append] at ih ⊢
    rw [ih]
theorem lk_setI (l:List Int) (n:Int):lkP false (.c (.v (.bool false))) false (mget (setI l) (.i .i64 n))=some (.c (.v (.bool (decide (n ∈ l))))):=by
 rw [mget_setI]
 by_cases h:n ∈ l<;>simp [h,lkP,rowP,okP,D.e]
theorem there_iff (c:Cfg) (x:ByteArray):thereB c x=true ↔ x ∈ c.modules.map Mod.name:=by
 refine ⟨there_mem,fun h=>?_⟩
 obtain ⟨m,h1,h2⟩:=List.mem_map.1 h
 unfold thereB modOf
 rw [List.find?_isSome]
 exact ⟨m,h1,by simp [h2]⟩
structure SeedOk (c:Cfg):Prop where
 few:FewA c
 pat:∀ y ∈ entsC c,y.pat.size≤1000000000
 keep:c.keep.length≤1000000
 name:∀ m ∈ c.modules,m.name.size≤maxLen
structure AskOk (ds:List Dev) (rs:List Rec):Prop where
 devs:ds.length≤1000000000
 al:∀ d ∈ ds,d.alias_.size≤9000000000000000000
 recs:rs.length≤1000000000
 load:∀ r ∈ rs,r.load.length≤9223372036854775806∧∀ s ∈ r.load,s.size≤9000000000000000000
theorem fmT_next {α:Type} [Inhabited α] (T S:List ByteArray) (f:α → List ByteArray) {l:List α} {k:Nat} (hk:k < l.length):addT T S ((l.take (k+1)).flatMap f)=addT T (addT T S ((l.take k).flatMap f)) (f (l.getD k default)):=by rw [fm_next f hk,addT_append]
set_option maxHeartbeats 16000000 in
theorem seeds_pure (c:Cfg) (ds:List Dev) (rs:List Rec) (hc:SeedOk c) (ha:AskOk ds rs) :
  PCalls Tryz.prog 10 [.agg c.e,.agg (trE ds),.c (.sl 12 (rs.map Rec.d))] [] fun r os=>r = .c (.sl 1 ((seedsL c ds rs).map strD))∧os=[]:=by
 have hcm:=hc.few.mods
 have hnew:=new_pure c hc.few hc.pat
 have hel:=entsC_len hc.few
 have hfind:=fun s hs=>find_pure (entsC c) s hel hc.pat hs
 unfold ixOs at hfind
 have hadd:=fun T S l hl=>add_pure T S l hl
 unfold addOs at hadd
 have hfl:∀ s,(findN (entsC c) s).length≤100:=fun s=>Nat.le_trans (findA_len c s) hcm
 have hdl:=ha.devs
 have hrl:=ha.recs
 refine pcalls_of Tryz.func10 rfl (by simp [Tryz.ntmps10]) ?_
 rw [Tryz.ntmps10,Tryz.results10]
 push_cast [iO,tN]
 have cB:CutB 20 [22,23,24,38,39,40,59,60,61,66,67,68]:=trivial
 repeat' (first|((first|refine pC ?_|refine pQC ?_|refine pU ?_);push_cast [iO,tN])|(refine pif (fun h=>?_) (fun h=>?_)<;>first|exact pN h|push_cast [iO,tN]))
 (apply pwp_loop3 (α:=Nat × List ByteArray) 20 [22,23,24,38,39,40,59,60,61,66,67,68] (fun x=>[(24,.c (.v (.int .i64 x.1)))]) (fun x=>[(2,.map none false (setE x.2))]) (fun x=>x.1≤c.modules.length∧∀ s,s ∈ x.2 ↔ s ∈ (c.modules.take x.1).map Mod.name) (fun x=>c.modules.length - x.1) ((0,[]));(focus ((try push_cast [iO,tN]);rfl));(focus exact ⟨by omega,by simp⟩);(focus ((refine weak_fg ?_;try push_cast [iO,tN]);(try (rfl)))))
 rintro ⟨k,T⟩ ⟨hk,hT⟩
 simp only at hk hT ⊢
 push_cast [iO,tN]
 by_cases hlt:k < c.modules.length
 ·obtain ⟨m,hmd⟩:∃ m,c.modules.getD k default=m:=⟨_,rfl⟩
  have hT2:∀ s,s ∈ addS T m.name ↔ s ∈ (c.modules.take (k+1)).map Mod.name:=fun s=>by
   rw [mem_addS,hT,List.take_succ_eq_append_getElem hlt,List.map_append,List.mem_append,← getD_lt _ hlt,hmd]
   simp
  repeat' (first|((first|refine pC ?_|refine pQC ?_|refine pU ?_);push_cast [iO,tN,hmd])|(refine pif (fun h=>?_) (fun h=>?_)<;>first|exact pN h|push_cast [iO,tN,hmd]))
  exact ⟨(k+1,addS T m.name),⟨by simp only;omega,hT2⟩,by (refine weak_fg ?_;push_cast [iO,tN]),by simp only;omega⟩
 have hk2:k=c.modules.length:=by omega
 rw [hk2,List.take_length] at hT
 have hTt:∀ x,x ∈ T ↔ thereB c x=true:=fun x=>(hT x).trans (there_iff c x).symm
 clear hT
 repeat' (first |  ((refine plc [] (hnew) ?_ ?_;push_cast [iO,tN];rintro r os ⟨rfl,rfl⟩;push_cast [iO,tN]))  | ((first|refine pC ?_|refine pQC ?_|refine pU ?_);push_cast [iO,tN])|(refine pif (fun h=>?_) (fun h=>?_)<;>first|exact pN h|push_cast [iO,tN]))
 obtain ⟨D0,hD0⟩:∃ D0,addT T [] (ds.flatMap (devAsk c))=D0:=⟨_,rfl⟩
 (apply pwp_loop3 (α:=Nat × List Int) 20 [22,23,24,38,39,40,59,60,61,66,67,68] (fun x=>[(40,.c (.v (.int .i64 x.1)))]) (fun x=>[(4,.map none false (setE (addT T [] ((ds.take x.1).flatMap (devAsk c))))),(8,.map (some .i64) false (setI x.2))]) (fun x=>x.1≤ds.length∧∀ n,n ∈ x.2 ↔ n ∈ (ds.take x.1).map Dev.index) (fun x=>ds.length - x.1) ((0,[]));(focus ((try push_cast [iO,tN]);rfl));(focus exact ⟨by omega,by simp⟩);(focus ((refine weak_fg ?_;try push_cast [iO,tN]);(try (exact ⟨rfl,rfl⟩)))))
 rintro ⟨k,I⟩ ⟨hk,hI⟩
 simp only at hk hI ⊢
 push_cast [iO,tN]
 by_cases hlt:k < ds.length
 ·obtain ⟨d,hd⟩:∃ d,ds.getD k default=d:=⟨_,rfl⟩
  have hdm:d ∈ ds:=by rw [← hd,getD_lt ds hlt];exact List.getElem_mem _
  have hI2:∀ n,n ∈ addI I d.index ↔ n ∈ (ds.take (k+1)).map Dev.index:=fun n=>by
   rw [mem_addI,hI,List.take_succ_eq_append_getElem hlt,List.map_append,List.mem_append,← getD_lt _ hlt,hd]
   simp
  obtain ⟨S0,hS0⟩:∃ S0,addT T [] ((ds.take k).flatMap (devAsk c))=S0:=⟨_,rfl⟩
  have hnx:addT T [] ((ds.take (k+1)).flatMap (devAsk c))=addT T (addT T S0 (findN (entsC c) d.alias_)) [d.driver]:=by
   rw [fmT_next T [] (devAsk c) hlt,hd,hS0]
   exact addT_append _ _ _ _
  rw [hS0]
  have hf:=hfind d.alias_ (ha.al d hdm)
  have ha1:=hadd T S0 (findN (entsC c) d.alias_) (by have:=hfl d.alias_;omega)
  have ha2:=hadd T (addT T S0 (findN (entsC c) d.alias_)) [d.driver] (by simp)
  repeat' (first|((refine plc [6,7] (hf) ?_ ?_;push_cast [iO,tN,hd,mput_setI];rintro r os ⟨rfl,rfl⟩;push_cast [iO,tN,hd,mput_setI]))|((refine plc [2,3,4,5] (ha1) ?_ ?_;push_cast [iO,tN,hd,mput_setI];rintro r os ⟨rfl,rfl⟩;push_cast [iO,tN,hd,mput_setI]))|((refine plc [2,3,4,5] (ha2) ?_ ?_;push_cast [iO,tN,hd,mput_setI];rintro r os ⟨rfl,rfl⟩;push_cast [iO,tN,hd,mput_setI]))|((first|refine pC ?_|refine pQC ?_|refine pU ?_);push_cast [iO,tN,hd,mput_setI])|(refine pif (fun h=>?_) (fun h=>?_)<;>first|exact pN h|push_cast [iO,tN,hd,mput_setI]))
  exact ⟨(k+1,addI I d.index),⟨by simp only;omega,hI2⟩,by (refine weak_fg ?_;push_cast [iO,tN,hnx]),by simp only;omega⟩
 have hk3:k=ds.length:=by omega
 rw [hk3,List.take_length] at hI
 have hIt:∀ n,decide (n ∈ I)=ds.any fun d=>decide (d.index=n):=fun n=>by
  rw [Bool.eq_iff_iff,decide_eq_true_eq,hI,List.mem_map,List.any_eq_true]
  simp only [decide_eq_true_eq]
 rw [hk3,List.take_length,hD0]
 repeat' (first|((first|refine pC ?_|refine pQC ?_|refine pU ?_);push_cast [iO,tN])|(refine pif (fun h=>?_) (fun h=>?_)<;>first|exact pN h|push_cast [iO,tN]))
 (apply pwp_loop3 (α:=Nat) 20 [22,23,24,38,39,40,59,60,61,66,67,68] (fun k=>[(61,.c (.v (.int .i64 k)))]) (fun k=>[(4,.map none false (setE (addT T D0 ((rs.take k).flatMap (recAsk c ds)))))]) (fun k=>k≤rs.length) (fun k=>rs.length - k) (0);(focus ((try push_cast [iO,tN]);rfl));(focus exact (by omega));(focus ((refine weak_fg ?_;try push_cast [iO,tN]);(try (rfl)))))
 intro k hk
 push_cast [iO,tN]
 by_cases hlt:k < rs.length
 ·obtain ⟨r,hr⟩:∃ r,rs.getD k default=r:=⟨_,rfl⟩
  have hrm:r ∈ rs:=by rw [← hr,getD_lt rs hlt];exact List.getElem_mem _
  obtain ⟨hrl1,hrl2⟩:=ha.load r hrm
  have hnx:=fmT_next T D0 (recAsk c ds) hlt
  obtain ⟨S0,hS0⟩:∃ S0,addT T D0 ((rs.take k).flatMap (recAsk c ds))=S0:=⟨_,rfl⟩
  rw [hr,hS0] at hnx
  rw [hS0]
  have hIr:=hIt r.index
  cases hb:ds.any fun d=>decide (d.index=r.index) with
  | true =>
   have hq:recAsk c ds r=r.load.flatMap (findN (entsC c)):=by unfold recAsk;rw [if_pos hb];rfl
   rw [hb] at hIr
   rw [hq] at hnx
   repeat' (first|((first|refine pC ?_|refine pQC ?_|refine pU ?_);push_cast [iO,tN,hr])|(refine pif (fun h=>?_) (fun h=>?_)<;>first|exact pN h|push_cast [iO,tN,hr]))
   (apply pwp_loop3 (α:=Nat) 20 [22,23,24,38,39,40,59,60,61,66,67,68] (fun j=>[(68,.c (.v (.int .i64 j)))]) (fun j=>[(4,.map none false (setE (addT T S0 ((r.load.take j).flatMap (findN (entsC c))))))]) (fun j=>j≤r.load.length) (fun j=>r.load.length - j) (0);(focus ((try push_cast [iO,tN]);rfl));(focus exact (by omega));(focus ((refine weak_fg ?_;try push_cast [iO,tN]);(try (rfl)))))
   intro j hj
   push_cast [iO,tN]
   by_cases hj2:j < r.load.length
   ·obtain ⟨s,hs⟩:∃ s,r.load.getD j default=s:=⟨_,rfl⟩
    have hsm:s ∈ r.load:=by rw [← hs,getD_lt r.load hj2];exact List.getElem_mem _
    have hnx2:=fmT_next T S0 (findN (entsC c)) hj2
    obtain ⟨S1,hS1⟩:∃ S1,addT T S0 ((r.load.take j).flatMap (findN (entsC c)))=S1:=⟨_,rfl⟩
    rw [hs,hS1] at hnx2
    rw [hS1]
    have hf:=hfind s (hrl2 s hsm)
    have ha1:=hadd T S1 (findN (entsC c) s) (by have:=hfl s;omega)
    repeat' (first|((refine plc [6,7] (hf) ?_ ?_;push_cast [iO,tN,hs,lk_setI,hIr];rintro r os ⟨rfl,rfl⟩;push_cast [iO,tN,hs,lk_setI,hIr]))|((refine plc [2,3,4,5] (ha1) ?_ ?_;push_cast [iO,tN,hs,lk_setI,hIr];rintro r os ⟨rfl,rfl⟩;push_cast [iO,tN,hs,lk_setI,hIr]))|((first|refine pC ?_|refine pQC ?_|refine pU ?_);push_cast [iO,tN,hs,lk_setI,hIr])|(refine pif (fun h=>?_) (fun h=>?_)<;>first|exact pN h|push_cast [iO,tN,hs,lk_setI,hIr]))
    exact ⟨j+1,by omega,by (refine weak_fg ?_;push_cast [iO,tN,hnx2]),by omega⟩
   ·have htk:r.load.take j=r.load:=List.take_of_length_le (by omega)
    rw [htk]
    repeat' (first|((first|refine pC ?_|refine pQC ?_|refine pU ?_);push_cast [iO,tN])|(refine pif (fun h=>?_) (fun h=>?_)<;>first|exact pN h|push_cast [iO,tN]))
    exact ⟨k+1,by omega,by (refine weak_fg ?_;push_cast [iO,tN,hnx]),by omega⟩
  | false =>
   have hq:recAsk c ds r=[]:=by unfold recAsk;rw [if_neg (by simp [hb])]
   rw [hb] at hIr
   have hq2:addT T S0 []=S0:=rfl
   rw [hq,hq2] at hnx
   repeat' (first|((first|refine pC ?_|refine pQC ?_|refine pU ?_);push_cast [iO,tN,hr])|(refine pif (fun h=>?_) (fun h=>?_)<;>first|exact pN h|push_cast [iO,tN,hr]))
   (apply pwp_loop3 (α:=Nat) 20 [22,23,24,38,39,40,59,60,61,66,67,68] (fun j=>[(68,.c (.v (.int .i64 j)))]) (fun j=>[]) (fun j=>j≤r.load.length) (fun j=>r.load.length - j) (0);(focus ((try push_cast [iO,tN]);rfl));(focus exact (by omega));(focus ((refine weak_fg ?_;try push_cast [iO,tN]))))
   intro j hj
   push_cast [iO,tN]
   by_cases hj2:j < r.load.length
   ·repeat' (first|((first|refine pC ?_|refine pQC ?_|refine pU ?_);push_cast [iO,tN,lk_setI,hIr])|(refine pif (fun h=>?_) (fun h=>?_)<;>first|exact pN h|push_cast [iO,tN,lk_setI,hIr]))
    exact ⟨j+1,by omega,by (refine weak_fg ?_;push_cast [iO,tN]),by omega⟩
   ·repeat' (first|((first|refine pC ?_|refine pQC ?_|refine pU ?_);push_cast [iO,tN])|(refine pif (fun h=>?_) (fun h=>?_)<;>first|exact pN h|push_cast [iO,tN]))
    exact ⟨k+1,by omega,by (refine weak_fg ?_;push_cast [iO,tN,hnx]),by omega⟩
 have htk:rs.take k=rs:=List.take_of_length_le (by omega)
 rw [htk]
 obtain ⟨S1,hS1⟩:∃ S1,addT T D0 (rs.flatMap (recAsk c ds))=S1:=⟨_,rfl⟩
 rw [hS1]
 have hk1:=hadd T S1 c.keep (by have:=hc.keep;omega)
 have hall:addT T S1 c.keep=addT T [] (askedL c ds rs):=by
  unfold askedL
  rw [addT_append,addT_append,hD0,hS1]
 rw [hall] at hk1
 obtain ⟨hnd,hsp⟩:=addT_spec T (askedL c ds rs) [] List.nodup_nil
 have hsl:=seeds_spec c ds rs
 obtain ⟨S2,hS2⟩:∃ S2,addT T [] (askedL c ds rs)=S2:=⟨_,rfl⟩
 rw [hS2] at hnd hsp hk1
 have hsn:∀ x ∈ S2,x ∈ c.modules.map Mod.name:=fun x hx=>by
  rcases (hsp x).1 hx with h|h
  ·cases h
  ·exact there_mem ((hTt x).1 h.2)
 have hsn2:=nodup_len S2 (c.modules.map Mod.name) hnd hsn
 rw [List.length_map] at hsn2
 have hsz:∀ x ∈ S2,x.size≤maxLen:=fun x hx=>by
  obtain ⟨m,h1,h2⟩:=List.mem_map.1 (hsn x hx)
  rw [← h2]
  exact hc.name m h1
 have hso:=sortedD_pure S2 hnd hsz (by omega)
 repeat' (first |  ((refine plc [2,3,4,5] (hk1) ?_ ?_;push_cast [iO,tN];rintro r os ⟨rfl,rfl⟩;push_cast [iO,tN]))|((refine plc [4] (keysOf_pure (setE S2)) ?_ ?_;push_cast [iO,tN];rintro r os ⟨rfl,rfl⟩;push_cast [iO,tN]))  | ((first|refine pC ?_|refine pQC ?_|refine pU ?_);push_cast [iO,tN])|(refine pif (fun h=>?_) (fun h=>?_)<;>first|exact pN h|push_cast [iO,tN]))
 refine pl_call2 false [4,9] rfl rfl (by kernel_rfl) hso ?_ nofun ?_
 ·push_cast [iO,tN]
 push_cast [iO,tN]
 rintro r os ⟨m,⟨h1,h2,h3⟩,rfl,rfl⟩
 have hm:seedsL c ds rs=m:=asc_ext hsl.1 h1 fun x=>by
  rw [hsl.2,h3,hsp,← hTt]
  simp
 have e2:=List.take_of_length_le (l:=m.map strD) (i:=m.length) (by simp)
 refine pl_weak (weak_frz 10 (by omega)) ?_
 push_cast [iO,tN,e2]
 refine pl_of_pops ?_
 push_cast [iO,tN]
 repeat' (first|((first|refine pC ?_|refine pQC ?_|refine pU ?_);push_cast [iO,tN])|(refine pif (fun h=>?_) (fun h=>?_)<;>first|exact pN h|push_cast [iO,tN]))
 (refine retK_of [] ?_;push_cast [iO,tN,hm])
set_option maxHeartbeats 4000000 in
theorem wanted_pure (c:Cfg) (ds:List Dev) (rs:List Rec) (hc:SeedOk c) (hc2:CfgOk2 c) (ha:AskOk ds rs) :
  PCalls Tryz.prog 12 [.agg c.e,.agg (trE ds),.c (.sl 12 (rs.map Rec.d))] [] fun r os=>r = .c (.own 0 (wantedL c ds rs).length)∧os=[.arr 9 1 ((wantedL c ds rs).map strD)]:=by
 have hse:=seeds_pure c ds rs hc ha
 have hsl:=seeds_spec c ds rs
 have hsn:=seeds_len c ds rs
 have hcm:=hc.few.mods
 have hnz:∀ x ∈ c.modules.map Mod.name,x.size≤maxLen:=fun x hx=>by
  obtain ⟨m,h1,h2⟩:=List.mem_map.1 hx
  rw [← h2]
  exact hc.name m h1
 have hcl:=closure_pure c (seedsL c ds rs) hc2 (by omega) (fun x hx=>hnz x (there_mem ((hsl.2 x).1 hx).2)) hnz
 unfold wantedL
 obtain ⟨W,hW⟩:∃ W,closL c.modules c.off (seedsL c ds rs)=W:=⟨_,rfl⟩
 rw [hW] at hcl ⊢
 refine pcalls_of Tryz.func12 rfl (by simp [Tryz.ntmps12]) ?_
 rw [Tryz.ntmps12,Tryz.results12]
 push_cast [iO,tN]
 have cB:CutB 7 []:=trivial
 repeat' (first |  (refine hidR 1 ?_)  | ((first|refine pC ?_|refine pQC ?_|refine pU ?_);push_cast [iO,tN])|(refine pif (fun h=>?_) (fun h=>?_)<;>first|exact pN h|push_cast [iO,tN]))
 refine unhid ?_
 (refine pwp_cut 7 [] ?_;refine pwp_drawn (by kernel_rfl) ?_;simp only [List.length_cons,List.length_nil,Nat.reduceAdd];refine pah 3 ?_;push_cast [iO,tN];apply pa_hav;intro z10;apply pa_hav;intro z9;apply pa_hav;intro z7;apply pa_hav;intro z8;apply pa_hav;intro z4;apply pa_hav;intro z5;apply pa_hav;intro z6;apply pa_hav;intro z1;apply pa_hav;intro z2;apply pa_hav;intro z3;refine pas [0,1,2] ?_;push_cast [iO,tN];refine ⟨z1,z2,z3⟩;refine pas [0,1] ?_;push_cast [iO,tN];refine ⟨z5,z6⟩;refine pas [0,2] ?_;push_cast [iO,tN];refine ⟨z4,paw z6 ?_⟩<;>(refine weak_fg ?_;push_cast [iO,tN]);refine pas [1,2] ?_;push_cast [iO,tN];refine ⟨paw z4 ?_,paw z5 ?_⟩<;>(refine weak_fg ?_;push_cast [iO,tN]);refine pas [0,4] ?_;push_cast [iO,tN];refine ⟨?_,?_⟩;(focus (exact z7));(focus ((first|((refine plc [] (hse) ?_ ?_;push_cast [iO,tN];rintro r os ⟨rfl,rfl⟩;push_cast [iO,tN]))|((refine plc [] (hcl) ?_ ?_;push_cast [iO,tN];rintro r os ⟨rfl,rfl⟩;push_cast [iO,tN])));exact z8));refine pas [1] ?_;push_cast [iO,tN];refine paw z7 ?_<;>(refine weak_fg ?_;push_cast [iO,tN]);refine pas [2] ?_;push_cast [iO,tN];refine paw z7 ?_<;>(refine weak_fg ?_;push_cast [iO,tN]);refine pas [0] ?_;push_cast [iO,tN];refine z9;refine pas [4] ?_;push_cast [iO,tN];(focus ((first|((refine plc [] (hse) ?_ ?_;push_cast [iO,tN];rintro r os ⟨rfl,rfl⟩;push_cast [iO,tN]))|((refine plc [] (hcl) ?_ ?_;push_cast [iO,tN];rintro r os ⟨rfl,rfl⟩;push_cast [iO,tN])));refine paw z9 ?_;refine weak_fg ?_;push_cast [iO,tN]));refine pas [5] ?_;push_cast [iO,tN];(focus ((first|((refine plc [] (hse) ?_ ?_;push_cast [iO,tN];rintro r os ⟨rfl,rfl⟩;push_cast [iO,tN]))|((refine plc [] (hcl) ?_ ?_;push_cast [iO,tN];rintro r os ⟨rfl,rfl⟩;push_cast [iO,tN])));refine pah 6 ?_;push_cast [iO,tN];exact paw z10 (weak_cutS 7 [] _)));push_cast [iO,tN];refine pad ?_;push_cast [iO,tN])
 repeat' (first|((first|refine pC ?_|refine pQC ?_|refine pU ?_);push_cast [iO,tN])|(refine pif (fun h=>?_) (fun h=>?_)<;>first|exact pN h|push_cast [iO,tN]))
 (refine retK_of [2] ?_;push_cast [iO,tN])
set_option maxRecDepth 20000
end Go.Proofs.YtmjffgienmcabaaGreatDoor
