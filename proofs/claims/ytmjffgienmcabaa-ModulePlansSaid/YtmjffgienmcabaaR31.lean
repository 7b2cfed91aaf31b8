/- What the program computes, and the plain laws of it, part 31. -/
import Derived.Lib.IndexAny
import Derived.Test.YtmjffgienmcabaaR29
import Derived.Test.YtmjffgienmcabaaR30
namespace Go.Proofs.Ytmjffgienmcabaa
open Go.RowKit
open IntWalk renaming iteOmega → iO, toNatUp → tN
set_option linter.unusedVariables false
set_option linter.unusedSimpArgs false
set_option maxRecDepth 20000
theorem alts_usb:altsM ⟨#[117,115,98,58,118,49,42]⟩=some [[litEl 117,litEl 115,litEl 98,litEl 58,litEl 118,litEl 49,starEl]]:=by
 unfold altsM
 rw [altGo,dif_neg (by decide),if_neg (by decide),if_neg (by decide),if_neg (by decide),if_neg (by decide)]
 rw [altGo,dif_neg (by decide),if_neg (by decide),if_neg (by decide),if_neg (by decide),if_neg (by decide)]
 rw [altGo,dif_neg (by decide),if_neg (by decide),if_neg (by decide),if_neg (by decide),if_neg (by decide)]
 rw [altGo,dif_neg (by decide),if_neg (by decide),if_neg (by decide),if_neg (by decide),if_neg (by decide)]
 rw [altGo,dif_neg (by decide),if_neg (by decide),if_neg (by decide),if_neg (by decide),if_neg (by decide)]
 rw [altGo,dif_neg (by decide),if_neg (by decide),if_neg (by decide),if_neg (by decide),if_neg (by decide)]
 rw [altGo,dif_neg (by decide),if_neg (by decide),if_pos (by decide)]
 rw [altGo,dif_pos (by decide)]
 rfl
theorem alts_pci:altsM ⟨#[112,99,105,58,100,50]⟩=some [[litEl 112,litEl 99,litEl 105,litEl 58,litEl 100,litEl 50]]:=by
 unfold altsM
 rw [altGo,dif_neg (by decide),if_neg (by decide),if_neg (by decide),if_neg (by decide),if_neg (by decide)]
 rw [altGo,dif_neg (by decide),if_neg (by decide),if_neg (by decide),if_neg (by decide),if_neg (by decide)]
 rw [altGo,dif_neg (by decide),if_neg (by decide),if_neg (by decide),if_neg (by decide),if_neg (by decide)]
 rw [altGo,dif_neg (by decide),if_neg (by decide),if_neg (by decide),if_neg (by decide),if_neg (by decide)]
 rw [altGo,dif_neg (by decide),if_neg (by decide),if_neg (by decide),if_neg (by decide),if_neg (by decide)]
 rw [altGo,dif_neg (by decide),if_neg (by decide),if_neg (by decide),if_neg (by decide),if_neg (by decide)]
 rw [altGo,dif_pos (by decide)]
 rfl
theorem glob_pci:globM ⟨#[112,99,105,58,100,50]⟩=0:=by
 unfold globM
 rw [if_neg (by decide),if_neg (by decide +kernel),alts_pci]
theorem match_usb:matchM ⟨#[117,115,98,58,118,49,42]⟩ ⟨#[112,99,105,58,100,50]⟩=false:=by
 unfold matchM
 rw [alts_usb]
 simp only
 rw [show ([[litEl 117,litEl 115,litEl 98,litEl 58,litEl 118,litEl 49,starEl]].any fun x=>mat x (⟨#[112,99,105,58,100,50]⟩:ByteArray).data.toList)=false from by decide +kernel,Bool.and_false]
theorem match_pci:matchM ⟨#[112,99,105,58,100,50]⟩ ⟨#[112,99,105,58,100,50]⟩=true:=by
 unfold matchM
 rw [glob_pci,alts_pci]
 simp only
 rw [show ([[litEl 112,litEl 99,litEl 105,litEl 58,litEl 100,litEl 50]].any fun x=>mat x (⟨#[112,99,105,58,100,50]⟩:ByteArray).data.toList)=true from by decide +kernel,show ((⟨#[112,99,105,58,100,50]⟩:ByteArray).data.toList.all textB)=true from by decide +kernel]
 rfl
def k20M:List Mod:=[⟨kHid,[⟨#[117,115,98,58,118,49,42]⟩],[],[],[],false⟩,⟨kNic,[⟨#[112,99,105,58,100,50]⟩],[kCore],[],[],false⟩,⟨kCore,[],[],[],[],false⟩]
def k20C:Cfg:=⟨k20M,[],[],[],[]⟩
def k20D:Dev:=⟨1,0,⟨#[120]⟩,⟨#[120]⟩,⟨#[112,99,105]⟩,⟨#[]⟩,⟨#[112,99,105,58,100,50]⟩,1,0,[]⟩
theorem k20_find (x:ByteArray):x ∈ findA k20C ⟨#[112,99,105,58,100,50]⟩ ↔ x=kNic:=by
 rw [(findA_spec k20C ⟨#[112,99,105,58,100,50]⟩).2]
 constructor
 ·rintro ⟨m,hm,hf,rfl⟩
  simp only [k20C,k20M,List.mem_cons,List.not_mem_nil,or_false] at hm
  rcases hm with rfl|rfl|rfl
  ·unfold foundR matsR at hf
   simp [k20C,match_usb] at hf
  ·rfl
  ·unfold foundR matsR at hf
   simp [k20C] at hf
 ·rintro rfl
  refine ⟨⟨kNic,[⟨#[112,99,105,58,100,50]⟩],[kCore],[],[],false⟩,by simp [k20C,k20M],?_,rfl⟩
  unfold foundR matsR
  simp only [List.any_cons,List.any_nil,match_pci,k20C]
  decide +kernel
theorem k20_seeds:seedsL k20C [k20D] []=[kNic]:=by
 obtain ⟨h1,h2⟩:=seeds_spec k20C [k20D] []
 refine asc_ext h1 (by simp [asc]) fun x=>?_
 rw [h2]
 have ha:x ∈ askedL k20C [k20D] [] ↔ x=kNic∨x=⟨#[]⟩:=by
  unfold askedL devAsk
  simp only [List.flatMap_cons,List.flatMap_nil,List.append_nil,List.mem_append,List.mem_singleton,show k20C.keep=[] from rfl,show k20D.alias_=⟨#[112,99,105,58,100,50]⟩ from rfl,show k20D.driver=⟨#[]⟩ from rfl,k20_find]
 rw [ha,List.mem_singleton]
 constructor
 ·rintro ⟨rfl|rfl,h⟩
  ·rfl
  ·exact absurd h (by decide +kernel)
 ·rintro rfl
  exact ⟨.inl rfl,by decide +kernel⟩
theorem k20_reach (x:ByteArray):Reach k20M kNic x ↔ x=kCore:=by
 refine ⟨fun h=>by simpa using reach_sub [kCore] (by decide +kernel) (by decide +kernel) h,?_⟩
 rintro rfl
 exact .one (by decide +kernel)
theorem k20_none {n:ByteArray} (hn:needsOf k20M n=[]) (x:ByteArray):¬ Reach k20M n x:=fun h=>by simpa using reach_sub [] (by rw [hn];simp) (by simp) h
theorem k20_hn (x:ByteArray):x ∈ hardL k20M kNic ↔ x=kNic∨x=kCore:=by rw [(hard_spec k20M kNic).2.1,k20_reach]
theorem k20_why:whyV k20M [] kNic=0:=by
 unfold whyV
 rw [if_neg,if_neg,if_neg]
 ·rintro ⟨x,hx,h⟩;rw [k20_hn] at hx;rcases hx with rfl|rfl<;>(refine absurd h ?_;decide +kernel)
 ·rintro ⟨x,hx,h⟩
  rw [k20_hn] at hx
  rcases hx with rfl|rfl
  ·rw [k20_reach] at h;revert h;decide +kernel
  ·exact k20_none (by decide +kernel) _ h
 ·rintro ⟨x,hx,h⟩;rw [k20_hn] at hx;rcases hx with rfl|rfl<;>revert h<;>decide +kernel
theorem k20_soft {n:ByteArray}:softOf k20M n=[]:=by
 unfold softOf
 cases h:modOf k20M n with
 | none=>rfl
 | some m =>
  have hm:=(mod_mem h).1
  simp only [k20M,List.mem_cons,List.not_mem_nil,or_false] at hm
  rcases hm with rfl|rfl|rfl<;>rfl
theorem k20_wanted:wantedL k20C [k20D] []=[kCore,kNic]:=by
 unfold wantedL
 rw [k20_seeds]
 refine listOf_eq (by simp only [asc];decide +kernel) fun x=>?_
 constructor
 ·intro h
  rw [List.mem_cons,List.mem_singleton] at h
  rcases h with rfl|rfl
  ·exact .base (by simp) k20_why ((k20_hn _).2 (.inr rfl))
  ·exact .base (by simp) k20_why ((k20_hn _).2 (.inl rfl))
 ·intro h
  cases h with
  | base h1 h2 h3 =>
   rw [List.mem_singleton] at h1
   subst h1
   rcases (k20_hn x).1 h3 with rfl|rfl<;>simp
  | step h1 h2 _ _=>rw [show k20C.modules=k20M from rfl,k20_soft] at h2;cases h2
theorem ascOf_id {l:List ByteArray} (h:asc l):ascOf l=l:=asc_ext (ascOf_spec l).1 h (ascOf_spec l).2.1
theorem k20_unl:unlM k20M [kCore,kNic] [kCore,kHid]=([kHid],[kCore]):=by
 unfold unlM
 rw [ascOf_id (by simp only [asc];decide +kernel)]
 decide +kernel
theorem k20_plan:planL k20M [kCore,kHid] [kCore,kNic]=[(9,kHid),(8,kNic)]:=by
 unfold planL
 rw [k20_unl]
 have hr:restM [kCore] [kCore,kNic]=[kNic]:=by
  unfold restM
  rw [show ([kCore,kNic].filter fun x=>!inM x [kCore])=[kNic] from by decide +kernel]
  exact ascOf_id (by simp [asc])
 simp only [hr]
 decide +kernel
def leD:D → D → Prop
 | .v x,.v y=>x=y
 | .v x,.sl _ l=>isEmp x=true∧l=[]
 | .sl sz l,.sl sz' l'=>sz=sz'∧l=l'
 | _,_=>False
def leDs:List D → List D → Prop
 | [],[]=>True
 | a :: l,b :: m=>leD a b∧leDs l m
 | _,_=>False
theorem leD_ok {w:World} {I:Nat → Prop} {d d':D} {y:Value} (h:leD d d') (hr:RD w I d y):RD w I d' y:=by
 cases d with
 | v x =>
  cases d' with
  | v z=>obtain rfl:x=z:=h;exact hr
  | sl sz l =>
   obtain ⟨h,rfl⟩:=h
   obtain ⟨A,c,rfl⟩:=isEmp_ok h
   rw [RD] at hr
   rw [rd_sl,hr.1]
   exact ⟨A,c,[],rfl,Nat.zero_le _,Rd.nil,by simp,trivial⟩
 | sl sz l =>
  cases d' with
  | v z=>exact h.elim
  | sl sz' l'=>obtain ⟨rfl,rfl⟩:=h;exact hr
theorem leDs_ok {w:World} {I:Nat → Prop}:∀ {r r':List D} {ys:List Value},leDs r r' → All2 (RD w I) r ys → All2 (RD w I) r' ys
 | [],[],_,_,hr=>hr
 | a :: l,b :: m,y :: ys,h,hr=>⟨leD_ok h.1 hr.1,leDs_ok h.2 hr.2⟩
 | _ :: _,_ :: _,[],_,hr=>hr.elim
 | [],_ :: _,_,h,_=>h.elim
 | _ :: _,[],_,h,_=>h.elim
theorem leDs_length:∀ {r r':List D},leDs r r' → r.length=r'.length
 | [],[],_=>rfl
 | a :: l,b :: m,h=>by simp [leDs_length h.2]
 | [],_ :: _,h=>h.elim
 | _ :: _,[],h=>h.elim
attribute [push_cast] leD leDs
def leRows:List (List D) → List (List D) → Prop
 | [],[]=>True
 | a :: l,b :: m=>leDs a b∧leRows l m
 | _,_=>False
theorem leRows_ok {w:World} {I:Nat → Prop}:∀ {r r':List (List D)} {ys:List Value},leRows r r' → All2 (RD w I) r.flatten ys → All2 (RD w I) r'.flatten ys
 | [],[],_,_,hr=>hr
 | a :: l,b :: m,ys,h,hr=>by
  simp only [List.flatten_cons] at hr ⊢
  obtain ⟨x,y,rfl,h1,h2⟩:=hr.split
  exact (leDs_ok h.1 h1).append (leRows_ok h.2 h2)
 | [],_ :: _,_,h,_=>h.elim
 | _ :: _,[],_,h,_=>h.elim
theorem leRows_length:∀ {r r':List (List D)},leRows r r' → r.length=r'.length
 | [],[],_=>rfl
 | a :: l,b :: m,h=>by simp [leRows_length h.2]
 | [],_ :: _,h=>h.elim
 | _ :: _,[],h=>h.elim
theorem leRows_mem {sz:Nat}:∀ {r r':List (List D)},leRows r r' → (∀ x ∈ r,x.length=sz) → ∀ x ∈ r',x.length=sz
 | [],[],_,_,x,hx=>by simp at hx
 | a :: l,b :: m,h,hr,x,hx=>by
  rcases List.mem_cons.1 hx with rfl|hx
  ·rw [← leDs_length h.1];exact hr a (by simp)
  ·exact leRows_mem h.2 (fun y hy=>hr y (by simp [hy])) x hx
 | [],_ :: _,h,_,_,_=>h.elim
 | _ :: _,[],h,_,_,_=>h.elim
attribute [push_cast] leRows
theorem weak_rows {N p:Nat} {s:S} (i:Nat) {sz:Nat} {l:List (List D)} (l':List (List D)) (hi:s.get i=some (.c (.full sz l))) (h:leRows l l'):Weak N p s ⟨(i,.c (.sl sz l')) :: s.t,s.o⟩:=by
 intro Γ a w hA
 refine ⟨Γ,⟨⟨hA.inv.size,hA.inv.defers,fun j q hq=>?_,hA.inv.m⟩,hA.le⟩,Grow.refl _ _ _⟩
 simp only [S.get,look] at hq
 split at hq
 ·rename_i e
  subst e
  cases hq
  obtain ⟨h1,h2,_⟩:=hA.inv.t j _ hi
  refine ⟨h1,?_⟩
  obtain ⟨A,c,xs,h3,h4,h5,h6,h7⟩:=rd_sl.1 h2
  show RD w Γ.I (.sl sz l') _
  rw [rd_sl,h3]
  have hl:=leRows_length h
  exact ⟨A,c,xs,by rw [hl],by omega,by rw [← hl];exact h5,leRows_mem h h6,leRows_ok h h7⟩
 ·exact hA.inv.t j q hq
def leC:E → E → Prop
 | .full sz l,.sl sz' l'=>sz=sz'∧leRows l l'
 | .v x,.v y=>x=y
 | _,_=>False
def leCs:List E → List E → Prop
 | [],[]=>True
 | a :: r,b :: r'=>leC a b∧leCs r r'
 | _,_=>False
attribute [push_cast] leC leCs
theorem leC_ok {w:World} {Γ:G} {a b:E} {y:Value} (h:leC a b) (hr:RE w Γ a y):RE w Γ b y:=by
 unfold leC at h
 split at h
 ·obtain ⟨rfl,h⟩:=h
  obtain ⟨h2,_⟩:=hr
  obtain ⟨A,c,xs,h3,h4,h5,h6,h7⟩:=rd_sl.1 h2
  show RD w Γ.I (.sl _ _) _
  rw [rd_sl,h3]
  have hl:=leRows_length h
  exact ⟨A,c,xs,by rw [hl],by omega,by rw [← hl];exact h5,leRows_mem h h6,leRows_ok h h7⟩
 ·subst h;exact hr
 ·exact h.elim
theorem leCs_ok {w:World} {Γ:G}:∀ {a b:List E} {ys:List Value},leCs a b → All2 (RE w Γ) a ys → All2 (RE w Γ) b ys
 | [],[],_,_,h=>h
 | _ :: _,_ :: _,[],_,h=>h.elim
 | _ :: _,_ :: _,_ :: _,h,hr=>⟨leC_ok h.1 hr.1,leCs_ok h.2 hr.2⟩
 | [],_ :: _,_,h,_=>h.elim
 | _ :: _,[],_,h,_=>h.elim
theorem weak_boxrows {N p:Nat} {s:S} (k:Nat) {ty:TypeId} {cs:List E} (cs':List E) (hk:s.o[k]? = some (.box ty cs)) (h:leCs cs cs'):Weak N p s ⟨s.t,setO s.o k (.box ty cs')⟩:=by
 intro Γ a w hA
 have hm:=hA.inv.m
 have hkl:k < s.o.length:=(List.getElem?_eq_some_iff.1 hk).1
 refine ⟨Γ,⟨⟨hA.inv.size,hA.inv.defers,hA.inv.t,⟨by simp [setO,hm.n],fun j o ho=>?_,hm.sep,hm.off,hm.lt,hm.pin⟩⟩,hA.le⟩,Grow.refl _ _ _⟩
 simp only [setO] at ho
 by_cases e:k=j
 ·subst e
  rw [List.getElem?_set_self hkl] at ho
  cases ho
  obtain ⟨g1,xs,g2,g3,g4⟩:=hm.ob k _ hk
  exact ⟨g1,xs,g2,leCs_ok h g3,g4⟩
 ·rw [List.getElem?_set_ne e] at ho
  exact hm.ob j o ho
theorem weak_aggrows {N p:Nat} {s:S} (i:Nat) {cs:List E} (cs':List E) (hi:s.get i=some (.agg cs)) (h:leCs cs cs'):Weak N p s ⟨(i,.agg cs') :: s.t,s.o⟩:=by
 intro Γ a w hA
 refine ⟨Γ,⟨⟨hA.inv.size,hA.inv.defers,fun j q hq=>?_,hA.inv.m⟩,hA.le⟩,Grow.refl _ _ _⟩
 simp only [S.get,look] at hq
 split at hq
 ·rename_i e
  subst e
  cases hq
  obtain ⟨h1,xs,h2,h3⟩:=hA.inv.t j _ hi
  exact ⟨h1,xs,h2,leCs_ok h h3⟩
 ·exact hA.inv.t j q hq
end Go.Proofs.Ytmjffgienmcabaa
namespace Go.Proofs.Ytmjffgienmcabaa
attribute [local irreducible] PL QL PWPr PCalls Weak RetK Kontr PA
open Go.RowKit
open IntWalk renaming iteOmega → iO, toNatUp → tN
set_option linter.unusedVariables false
set_option linter.unusedSimpArgs false
set_option maxRecDepth 20000
theorem k20_mod {m:Mod} (h:m ∈ k20M):m.aliases.length≤1∧m.needs.length≤1∧m.pre.length≤1∧m.post.length≤1∧m.name≠⟨#[]⟩∧(∀ x ∈ m.needs,x.size≤10)∧m.name.size≤10:=by
 have:∀ m ∈ k20M,m.aliases.length≤1∧m.needs.length≤1∧m.pre.length≤1∧m.post.length≤1∧m.name≠⟨#[]⟩∧(∀ x ∈ m.needs,x.size≤10)∧m.name.size≤10:=by decide +kernel
 exact this m h
theorem k20_ok:CfgOk2 k20C:=by
 have hz:(10:Nat)≤maxLen:=by unfold maxLen;omega
 refine ⟨⟨⟨by decide,fun m hm=>by have:=k20_mod hm;omega,fun m hm=>by have:=k20_mod hm;omega,fun m hm=>by have:=k20_mod hm;omega,by decide +kernel,fun m hm=>(k20_mod hm).2.2.2.2.1⟩,⟨fun x hx=>?_⟩,by simp [k20C]⟩,fun n x hx=>(by rw [show k20C.modules=k20M from rfl,k20_soft] at hx;cases hx),fun n=>(by rw [show k20C.modules=k20M from rfl,k20_soft];simp)⟩
 obtain ⟨m,hm,hx⟩:=List.mem_flatMap.1 hx
 exact Nat.le_trans ((k20_mod hm).2.2.2.2.2.1 x hx) hz
theorem k20_seed:SeedOk k20C:=by
 have hz:(10:Nat)≤maxLen:=by unfold maxLen;omega
 refine ⟨⟨by decide,fun m hm=>by have:=k20_mod hm;omega,by decide,by decide⟩,?_,by decide,fun m hm=>Nat.le_trans (k20_mod hm).2.2.2.2.2.2 hz⟩
 have:∀ y ∈ entsC k20C,y.pat.size≤10:=by decide +kernel
 intro y hy
 have:=this y hy
 omega
theorem k20_ask:AskOk [k20D] []:=by
 refine ⟨by simp,fun d hd=>?_,by simp,fun r hr=>by cases hr⟩
 rw [List.mem_singleton] at hd
 subst hd
 decide
set_option maxHeartbeats 4000000 in
theorem known20_pure:PCalls Try.prog 4 [] [] fun r os=>r = .c (.v (.bool true))∧os=[]:=by
 have hw:=wanted_pure k20C [k20D] [] k20_seed k20_ok k20_ask
 rw [k20_wanted] at hw
 have hp:=plan_pureM k20C [kCore,kHid] [kCore,kNic] k20_ok (by decide) (by decide)
 rw [show k20C.modules=k20M from rfl,k20_plan] at hp
 have s1:=same_pure [kCore,kNic] [kCore,kNic] (by decide) (by decide)
 have s2:=sameops_pure [(9,kHid),(8,kNic)] [(9,kHid),(8,kNic)] (by decide) (by decide)
 refine pcalls_of Try.func4 rfl (by simp [Try.ntmps4]) ?_
 rw [Try.ntmps4,Try.results4]
 push_cast [iO,tN]
 repeat' (first|((first|refine pG ?_|refine pQ ?_|refine pU ?_);push_cast [iO,tN])|(refine pif (fun h=>?_) (fun h=>?_)<;>first|exact pN h|push_cast [iO,tN]))
 refine pl_weak (weak_boxrows 0 (k20C.e.take 1++List.replicate 4 (.v (.slice none 0 0))) rfl (by simp [k20C,k20M,kNic,kCore,kHid,Cfg.e,Cfg.d,Mod.d,D.e,leCs,leC,leRows,leDs,leD,isEmp,strD])) ?_
 refine pl_weak (weak_boxrows 1 (trE [k20D]) rfl (by simp [k20D,trE,Dev.d,D.e,leCs,leC,leRows,leDs,leD,isEmp,strD])) ?_
 refine pl_weak (weak_aggrows 16 (k20C.e.take 1++List.replicate 4 (.v (.slice none 0 0))) rfl (by simp [k20C,k20M,kNic,kCore,kHid,Cfg.e,Cfg.d,Mod.d,D.e,leCs,leC,leRows,leDs,leD,isEmp,strD])) ?_
 refine pl_weak (weak_aggrows 17 (trE [k20D]) rfl (by simp [k20D,trE,Dev.d,D.e,leCs,leC,leRows,leDs,leD,isEmp,strD])) ?_
 have hb:k20C.blocked=[]:=rfl
 have hof:k20C.off=[]:=rfl
 have hk:k20C.keep=[]:=rfl
 have hx:k20C.extra=[]:=rfl
 refine pl_weak (s':=⟨[(17,.agg (trE [k20D])),(16,.agg k20C.e),(2,.c (.ptr 1 0)),(1,.c (.ptr 0 0)),(0,.c (.v (.bool false)))],[.box 31 k20C.e,.box 49 (trE [k20D])]⟩) (by (simp only [Cfg.e,Cfg.d,List.map_cons,List.map_nil,D.e,List.take_succ_cons,List.take_zero,List.replicate,List.cons_append,List.nil_append,hb,hof,hk,hx]);(refine weak_fg ?_;push_cast [iO,tN])) ?_
 generalize k20C=c at *
 generalize [k20D]=ds at *
 simp only [kNic,kCore,kHid,List.map_cons,List.map_nil,strD,opR,List.length_cons,List.length_nil,decide_true,Nat.reduceAdd,decide_eq_true_eq] at hw hp s1 s2
 repeat' (first |  (refine pl_call2 false [] rfl rfl (by kernel_rfl) hw ?_ nofun ?_;push_cast [iO,tN];rintro r os ⟨rfl,rfl⟩;refine pl_weak (weak_frz 2 (by omega)) ?_;push_cast [iO,tN];refine pl_of_pops ?_;push_cast [iO,tN])|((refine plc [] (hp) ?_ ?_;push_cast [iO,tN];rintro r os ⟨rfl,rfl⟩;push_cast [iO,tN]))|((refine plc [] (s1) ?_ ?_;push_cast [iO,tN];rintro r os ⟨rfl,rfl⟩;push_cast [iO,tN]))|((refine plc [] (s2) ?_ ?_;push_cast [iO,tN];rintro r os ⟨rfl,rfl⟩;push_cast [iO,tN]))  | ((first|refine pG ?_|refine pQ ?_|refine pU ?_);push_cast [iO,tN])|(refine pif (fun h=>?_) (fun h=>?_)<;>first|exact pN h|push_cast [iO,tN]))
 (refine retK_of [] ?_;push_cast [iO,tN])
set_option maxRecDepth 20000
theorem filt_step {l:List ByteArray} {k:Nat} (p:ByteArray → Bool) (hk:k < l.length):(l.take (k+1)).filter p=(l.take k).filter p++if p (l.getD k default)=true then [l.getD k default] else []:=by
 rw [List.take_succ_eq_append_getElem hk,List.filter_append,getD_lt l hk]
 congr 1
 by_cases h:p l[k]=true<;>simp [h]
end Go.Proofs.Ytmjffgienmcabaa
