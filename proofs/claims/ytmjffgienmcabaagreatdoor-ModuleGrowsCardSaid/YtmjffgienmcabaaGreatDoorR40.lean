/- What the program computes, and the plain laws of it, part 40. -/
import Derived.ProofKit
import Derived.OpenShut
import Derived.ShutString
import Derived.ChangeOld
import Derived.Deep.Slices
import Derived.Deep.Fields
import Derived.Test.YtmjffgienmcabaaGreatDoorR39
namespace Go.Proofs.YtmjffgienmcabaaGreatDoor
attribute [local irreducible] PL QL PWPr PCalls Weak RetK Kontr PA
open Go.RowKit
open IntWalk renaming iteOmega → iO, toNatUp → tN
set_option linter.unusedVariables false
set_option linter.unusedSimpArgs false
set_option maxRecDepth 20000
def opR (x:Int × ByteArray):List D:=[.v (.int .i64 x.1),.v (.string ⟨#[]⟩),.v (.int .i64 0),.v (.int .i64 0),.v (.string ⟨#[]⟩),.v (.string ⟨#[]⟩),.v (.string ⟨#[]⟩),.v (.string ⟨#[]⟩),.v (.string ⟨#[]⟩),.v (.int .i64 0),.v (.int .i64 0),.v (.slice none 0 0),.v (.string ⟨#[]⟩),.v (.string x.2)]
attribute [push_cast] opR
theorem ordF_len (M:List Mod):∀ (n:Nat) (T R:List ByteArray),(ordF M n T R).length≤n
 | 0,_,_=>by simp [ordF]
 | n+1,T,R=>by
  unfold ordF
  split
  ·simp
  ·simp only [List.length_cons]
   have:=ordF_len M n
   exact Nat.succ_le_succ (this _ _)
theorem ord_len (M:List Mod) (ld R:List ByteArray):(ordM M ld R).length≤R.length:=ordF_len M _ _ _
set_option maxHeartbeats 4000000 in
theorem plan_pureM (c:Cfg) (loaded W:List ByteArray) (hc:CfgOk2 c) (hl:loaded.length≤1000) (hW:W.length≤1000) :
  PCalls Tryz.prog 16 [.agg c.e,.c (.sl 1 (loaded.map strD)),.c (.sl 1 (W.map strD))] [] fun r os=>r = .c (.sl 14 ((planL c.modules loaded W).map opR))∧os=[]:=by
 have hun:=unloads_pure c loaded W hc.small hl (by omega)
 obtain ⟨hl1,hl2⟩:=unlM_len c.modules W loaded
 unfold planL
 obtain ⟨gone,hg⟩:∃ gone,(unlM c.modules W loaded).1=gone:=⟨_,rfl⟩
 obtain ⟨st,hst⟩:∃ st,(unlM c.modules W loaded).2=st:=⟨_,rfl⟩
 rw [hg,hst] at hun ⊢
 rw [hg] at hl1
 rw [hst] at hl2
 have hor:=dorder_pure c W st hc hW (by omega)
 have hol:=ord_len c.modules st (restM st W)
 have hrl:=(restM_spec st W).2.2
 obtain ⟨o,ho⟩:∃ o,ordM c.modules st (restM st W)=o:=⟨_,rfl⟩
 rw [ho] at hor hol ⊢
 obtain ⟨p,hp⟩:∃ p,gone.map (fun s=>((9:Int),s))++o.map (fun s=>((8:Int),s))=p:=⟨_,rfl⟩
 rw [hp]
 refine pcalls_of Tryz.func16 rfl (by simp [Tryz.ntmps16]) ?_
 rw [Tryz.ntmps16,Tryz.results16]
 push_cast [iO,tN]
 have cB:CutB 14 [21,22,23,36,37,38]:=trivial
 repeat' (first |  ((refine plc [] (hun) ?_ ?_;push_cast [iO,tN];rintro r os ⟨rfl,rfl⟩;push_cast [iO,tN]))  | ((first|refine pC ?_|refine pQC ?_|refine pU ?_);push_cast [iO,tN])|(refine pif (fun h=>?_) (fun h=>?_)<;>first|exact pN h|push_cast [iO,tN]))
 refine pwp_weak (weak_adopt 9 53 14 (by omega) (by push_cast [iO,tN])) ?_
 push_cast [iO,tN]
 (apply pwp_loop3 (α:=Nat × List (Int × ByteArray)) 14 [21,22,23,36,37,38] (fun x=>[(23,.c (.v (.int .i64 x.1))),(9,.c (.own 1 (x.2.length)))]) (fun x=>[(1,.arr 53 14 (x.2.map opR))]) (fun x=>x.1≤gone.length∧x.2=(gone.take x.1).map fun s=>((9:Int),s)) (fun x=>gone.length - x.1) ((0,[]));(focus ((try push_cast [iO,tN]);rfl));(focus exact ⟨by omega,by simp⟩);(focus ((refine weak_fg ?_;try push_cast [iO,tN]))))
 rintro ⟨k,l⟩ ⟨hk,hlx⟩
 simp only at hk hlx ⊢
 have hll:l.length≤1000:=by rw [hlx,List.length_map,List.length_take];omega
 push_cast [iO,tN]
 by_cases hlt:k < gone.length
 ·have hnx:(gone.take (k+1)).map (fun s=>((9:Int),s))=l++[((9:Int),gone.getD k default)]:=by
   rw [List.take_succ_eq_append_getElem hlt,List.map_append,getD_lt gone hlt,hlx];rfl
  repeat' (first|((first|refine pC ?_|refine pQC ?_|refine pU ?_);push_cast [iO,tN])|(refine pif (fun h=>?_) (fun h=>?_)<;>first|exact pN h|push_cast [iO,tN]))
  exact ⟨(k+1,l++[((9:Int),gone.getD k default)]),⟨by simp only;omega,hnx.symm⟩,by (refine weak_fg ?_;push_cast [iO,tN]),by simp only;omega⟩
 have hk2:k=gone.length:=by omega
 rw [hk2,List.take_length] at hlx
 have e2:=List.take_of_length_le (l:=o.map strD) (i:=o.length) (by simp)
 repeat' (first |  (refine pl_call2 false [] rfl rfl (by kernel_rfl) hor ?_ nofun ?_;push_cast [iO,tN];rintro r os ⟨rfl,rfl⟩;refine pl_weak (weak_frz 2 (by omega)) ?_;push_cast [iO,tN,e2];refine pl_of_pops ?_;push_cast [iO,tN])  | ((first|refine pC ?_|refine pQC ?_|refine pU ?_);push_cast [iO,tN])|(refine pif (fun h=>?_) (fun h=>?_)<;>first|exact pN h|push_cast [iO,tN]))
 (apply pwp_loop3 (α:=Nat × List (Int × ByteArray)) 14 [21,22,23,36,37,38] (fun x=>[(38,.c (.v (.int .i64 x.1))),(9,.c (.own 1 (x.2.length)))]) (fun x=>[(1,.arr 53 14 (x.2.map opR))]) (fun x=>x.1≤o.length∧x.2=l++(o.take x.1).map fun s=>((8:Int),s)) (fun x=>o.length - x.1) ((0,l));(focus ((try push_cast [iO,tN]);rfl));(focus exact ⟨by omega,by simp⟩);(focus ((refine weak_fg ?_;try push_cast [iO,tN]))))
 rintro ⟨j,l2⟩ ⟨hj,hl2x⟩
 simp only at hj hl2x ⊢
 have hll2:l2.length≤10000:=by rw [hl2x,List.length_append,List.length_map,List.length_take];omega
 push_cast [iO,tN]
 by_cases hjt:j < o.length
 ·have hnx:l++(o.take (j+1)).map (fun s=>((8:Int),s))=l2++[((8:Int),o.getD j default)]:=by
   rw [List.take_succ_eq_append_getElem hjt,List.map_append,getD_lt o hjt,hl2x,List.append_assoc];rfl
  repeat' (first|((first|refine pC ?_|refine pQC ?_|refine pU ?_);push_cast [iO,tN])|(refine pif (fun h=>?_) (fun h=>?_)<;>first|exact pN h|push_cast [iO,tN]))
  exact ⟨(j+1,l2++[((8:Int),o.getD j default)]),⟨by simp only;omega,hnx.symm⟩,by (refine weak_fg ?_;push_cast [iO,tN]),by simp only;omega⟩
 have hj2:j=o.length:=by omega
 rw [hj2,List.take_length,hlx,hp] at hl2x
 have e3:=List.take_of_length_le (l:=l2.map opR) (i:=l2.length) (by simp)
 refine pwp_weak (weak_frz 1 (Nat.zero_le _)) ?_
 push_cast [iO,tN,e3]
 repeat' (first|((first|refine pC ?_|refine pQC ?_|refine pU ?_);push_cast [iO,tN])|(refine pif (fun h=>?_) (fun h=>?_)<;>first|exact pN h|push_cast [iO,tN]))
 (refine retK_of [] ?_;push_cast [iO,tN,hl2x])
set_option maxHeartbeats 8000000 in
theorem sameops_pure (a b:List (Int × ByteArray)) (ha:a.length≤1000000000) (hb:b.length≤1000000000) :
  PCalls Tryz.prog 17 [.c (.sl 14 (a.map opR)),.c (.sl 14 (b.map opR))] [] fun r os=>r = .c (.v (.bool (decide (a=b))))∧os=[]:=by
 refine pcalls_of Tryz.func17 rfl (by simp [Tryz.ntmps17]) ?_
 rw [Tryz.ntmps17,Tryz.results17]
 push_cast [iO,tN]
 by_cases hl:a.length=b.length
 case neg =>
  have hR:decide (a=b)=false:=decide_eq_false fun e=>hl (by rw [e])
  have hl':¬ (a.length:Int)=(b.length:Int):=by omega
  repeat' (first|((first|refine pG ?_|refine pQ ?_|refine pU ?_);push_cast [iO,tN,hl'])|(refine pif (fun h=>?_) (fun h=>?_)<;>first|exact pN h|push_cast [iO,tN,hl']))
  (refine retK_of [] ?_;push_cast [iO,tN,hR])
 have cB:CutB 6 []:=trivial
 repeat' (first|((first|refine pC ?_|refine pQC ?_|refine pU ?_);push_cast [iO,tN,hl])|(refine pif (fun h=>?_) (fun h=>?_)<;>first|exact pN h|push_cast [iO,tN,hl]))
 (apply pwp_loop3 (α:=Nat) 6 [] (fun k=>[(5,.c (.v (.int .i64 k)))]) (fun k=>[]) (fun k=>k≤a.length∧a.take k=b.take k) (fun k=>a.length - k) (0);(focus ((try push_cast [iO,tN]);rfl));(focus exact ⟨by omega,rfl⟩);(focus ((refine weak_fg ?_;try push_cast [iO,tN]))))
 rintro k ⟨hk,hpre⟩
 push_cast [iO,tN]
 by_cases hlt:k < a.length
 ·have hlt':k < b.length:=by omega
  have e1:=getD_lt a hlt
  have e2:=getD_lt b hlt'
  by_cases h1:(a.getD k default).1=(b.getD k default).1
  ·by_cases h2:(a.getD k default).2=(b.getD k default).2
   ·have he:a.take (k+1)=b.take (k+1):=by
     rw [List.take_succ_eq_append_getElem hlt,List.take_succ_eq_append_getElem hlt',hpre,← e1,← e2,Prod.ext h1 h2]
    repeat' (first|((first|refine pC ?_|refine pQC ?_|refine pU ?_);push_cast [iO,tN,h1,h2,ne_eq,not_true_eq_false])|(refine pif (fun h=>?_) (fun h=>?_)<;>first|exact pN h|push_cast [iO,tN,h1,h2,ne_eq,not_true_eq_false]))
    exact ⟨k+1,⟨by omega,he⟩,by (refine weak_fg ?_;push_cast [iO,tN]),by omega⟩
   ·have hR:decide (a=b)=false:=decide_eq_false fun e=>h2 (by rw [e])
    repeat' (first|((first|refine pC ?_|refine pQC ?_|refine pU ?_);push_cast [iO,tN,h1,h2,ne_eq,not_true_eq_false,not_false_eq_true])|(refine pif (fun h=>?_) (fun h=>?_)<;>first|exact pN h|push_cast [iO,tN,h1,h2,ne_eq,not_true_eq_false,not_false_eq_true]))
    (refine retK_of [] ?_;push_cast [iO,tN,hR])
  ·have hR:decide (a=b)=false:=decide_eq_false fun e=>h1 (by rw [e])
   repeat' (first|((first|refine pC ?_|refine pQC ?_|refine pU ?_);push_cast [iO,tN,h1,ne_eq,not_false_eq_true])|(refine pif (fun h=>?_) (fun h=>?_)<;>first|exact pN h|push_cast [iO,tN,h1,ne_eq,not_false_eq_true]))
   (refine retK_of [] ?_;push_cast [iO,tN,hR])
 ·have hk2:k=a.length:=by omega
  rw [hk2,List.take_length,hl,List.take_length] at hpre
  have hR:decide (a=b)=true:=decide_eq_true hpre
  repeat' (first|((first|refine pC ?_|refine pQC ?_|refine pU ?_);push_cast [iO,tN])|(refine pif (fun h=>?_) (fun h=>?_)<;>first|exact pN h|push_cast [iO,tN]))
  (refine retK_of [] ?_;push_cast [iO,tN,hR])
end Go.Proofs.YtmjffgienmcabaaGreatDoor
namespace Go.Proofs.YtmjffgienmcabaaGreatDoor
open Go.RowKit
open IntWalk renaming iteOmega → iO, toNatUp → tN
set_option linter.unusedVariables false
set_option linter.unusedSimpArgs false
instance decMem (x:ByteArray) (l:List ByteArray):Decidable (x ∈ l):=decidable_of_iff (inM x l=true) inM_iff
def kNic:ByteArray:=⟨#[110,105,99]⟩
def kCore:ByteArray:=⟨#[99,111,114,101]⟩
def kHid:ByteArray:=⟨#[104,105,100]⟩
theorem reach_sub {M:List Mod} {n:ByteArray} (S:List ByteArray) (h0:∀ x ∈ needsOf M n,x ∈ S) (h1:∀ y ∈ S,∀ x ∈ needsOf M y,x ∈ S):∀ {x:ByteArray},Reach M n x → x ∈ S:=by
 intro x h
 induction h with
 | one h=>exact h0 _ h
 | more _ h ih=>exact h1 _ ih _ h
set_option maxRecDepth 20000
theorem alts_usb:altsM ⟨#[117,115,98,58,118,49,42]⟩=some [[litEl 117,litEl 115,litEl 98,litEl 58,litEl 118,litEl 49,starEl]]:=by
 unfold altsM
 rw [altGo,dif_neg (by decide),if_neg (by decide),if_neg (by decide),if_neg (by decide),if_neg (by decide)]
 rw [altGo,dif_neg (by decide),if_neg (by decide),if_neg (by decide),if_neg (by decide),if_neg (by decide)]
 rw [altGo,dif_neg (by decide),if_neg (by decide),if_neg (by decide),if_neg (by decide),if_neg (by decide)]
 rw [altGo,dif_neg (by decide),if_neg (by decide),if_neg (by decide),if_neg (by decide),if_neg (by decide)]
 rw [altGo,dif_neg (by decide),if_neg (by decide),if_neg (by decide),if_neg (by decide),if_neg (by decide)]
 rw [altGo,dif_neg (by decide),if_neg (by decide),if_neg (by decide),if_neg (by decide),if_neg (by decide)]
 rw [altGo,dif_neg (by decide),if_neg (by decide),if_pos (by decide)]
 rw [altGo,dif_pos (by decide)]
 rfl
theorem alts_pci:altsM ⟨#[112,99,105,58,100,50]⟩=some [[litEl 112,litEl 99,litEl 105,litEl 58,litEl 100,litEl 50]]:=by
 unfold altsM
 rw [altGo,dif_neg (by decide),if_neg (by decide),if_neg (by decide),if_neg (by decide),if_neg (by decide)]
 rw [altGo,dif_neg (by decide),if_neg (by decide),if_neg (by decide),if_neg (by decide),if_neg (by decide)]
 rw [altGo,dif_neg (by decide),if_neg (by decide),if_neg (by decide),if_neg (by decide),if_neg (by decide)]
 rw [altGo,dif_neg (by decide),if_neg (by decide),if_neg (by decide),if_neg (by decide),if_neg (by decide)]
 rw [altGo,dif_neg (by decide),if_neg (by decide),if_neg (by decide),if_neg (by decide),if_neg (by decide)]
 rw [altGo,dif_neg (by decide),if_neg (by decide),if_neg (by decide),if_neg (by decide),if_neg (by decide)]
 rw [altGo,dif_pos (by decide)]
 rfl
theorem glob_pci:globM ⟨#[112,99,105,58,100,50]⟩=0:=by
 unfold globM
 rw [if_neg (by decide),if_neg (by decide +kernel),alts_pci]
theorem match_usb:matchM ⟨#[117,115,98,58,118,49,42]⟩ ⟨#[112,99,105,58,100,50]⟩=false:=by
 unfold matchM
 rw [alts_usb]
 simp only
 rw [show ([[litEl 117,litEl 115,litEl 98,litEl 58,litEl 118,litEl 49,starEl]].any fun x=>mat x (⟨#[112,99,105,58,100,50]⟩:ByteArray).data.toList)=false from by decide +kernel,Bool.and_false]
theorem match_pci:matchM ⟨#[112,99,105,58,100,50]⟩ ⟨#[112,99,105,58,100,50]⟩=true:=by
 unfold matchM
 rw [glob_pci,alts_pci]
 simp only
 rw [show ([[litEl 112,litEl 99,litEl 105,litEl 58,litEl 100,litEl 50]].any fun x=>mat x (⟨#[112,99,105,58,100,50]⟩:ByteArray).data.toList)=true from by decide +kernel,show ((⟨#[112,99,105,58,100,50]⟩:ByteArray).data.toList.all textB)=true from by decide +kernel]
 rfl
def k20M:List Mod:=[⟨kHid,[⟨#[117,115,98,58,118,49,42]⟩],[],[],[],false⟩,⟨kNic,[⟨#[112,99,105,58,100,50]⟩],[kCore],[],[],false⟩,⟨kCore,[],[],[],[],false⟩]
def k20C:Cfg:=⟨k20M,[],[],[],[]⟩
def k20D:Dev:=⟨1,0,⟨#[120]⟩,⟨#[120]⟩,⟨#[112,99,105]⟩,⟨#[]⟩,⟨#[112,99,105,58,100,50]⟩,1,0,[]⟩
theorem k20_find (x:ByteArray):x ∈ findA k20C ⟨#[112,99,105,58,100,50]⟩ ↔ x=kNic:=by
 rw [(findA_spec k20C ⟨#[112,99,105,58,100,50]⟩).2]
 constructor
 ·rintro ⟨m,hm,hf,rfl⟩
  simp only [k20C,k20M,List.mem_cons,List.not_mem_nil,or_false] at hm
  rcases hm with rfl|rfl|rfl
  ·unfold foundR matsR at hf
   simp [k20C,match_usb] at hf
  ·rfl
  ·unfold foundR matsR at hf
   simp [k20C] at hf
 ·rintro rfl
  refine ⟨⟨kNic,[⟨#[112,99,105,58,100,50]⟩],[kCore],[],[],false⟩,by simp [k20C,k20M],?_,rfl⟩
  unfold foundR matsR
  simp only [List.any_cons,List.any_nil,match_pci,k20C]
  decide +kernel
theorem k20_seeds:seedsL k20C [k20D] []=[kNic]:=by
 obtain ⟨h1,h2⟩:=seeds_spec k20C [k20D] []
 refine asc_ext h1 (by simp [asc]) fun x=>?_
 rw [h2]
 have ha:x ∈ askedL k20C [k20D] [] ↔ x=kNic∨x=⟨#[]⟩:=by
  unfold askedL devAsk
  simp only [List.flatMap_cons,List.flatMap_nil,List.append_nil,List.mem_append,List.mem_singleton,show k20C.keep=[] from rfl,show k20D.alias_=⟨#[112,99,105,58,100,50]⟩ from rfl,show k20D.driver=⟨#[]⟩ from rfl,k20_find]
 rw [ha,List.mem_singleton]
 constructor
 ·rintro ⟨rfl|rfl,h⟩
  ·rfl
  ·exact absurd h (by decide +kernel)
 ·rintro rfl
  exact ⟨.inl rfl,by decide +kernel⟩
theorem k20_reach (x:ByteArray):Reach k20M kNic x ↔ x=kCore:=by
 refine ⟨fun h=>by simpa using reach_sub [kCore] (by decide +kernel) (by decide +kernel) h,?_⟩
 rintro rfl
 exact .one (by decide +kernel)
theorem k20_none {n:ByteArray} (hn:needsOf k20M n=[]) (x:ByteArray):¬ Reach k20M n x:=fun h=>by simpa using reach_sub [] (by rw [hn];simp) (by simp) h
theorem k20_hn (x:ByteArray):x ∈ hardL k20M kNic ↔ x=kNic∨x=kCore:=by rw [(hard_spec k20M kNic).2.1,k20_reach]
theorem k20_why:whyV k20M [] kNic=0:=by
 unfold whyV
 rw [if_neg,if_neg,if_neg]
 ·rintro ⟨x,hx,h⟩;rw [k20_hn] at hx;rcases hx with rfl|rfl<;>(refine absurd h ?_;decide +kernel)
 ·rintro ⟨x,hx,h⟩
  rw [k20_hn] at hx
  rcases hx with rfl|rfl
  ·rw [k20_reach] at h;revert h;decide +kernel
  ·exact k20_none (by decide +kernel) _ h
 ·rintro ⟨x,hx,h⟩;rw [k20_hn] at hx;rcases hx with rfl|rfl<;>revert h<;>decide +kernel
theorem k20_soft {n:ByteArray}:softOf k20M n=[]:=by
 unfold softOf
 cases h:modOf k20M n with
 | none=>rfl
 | some m =>
  have hm:=(mod_mem h).1
  simp only [k20M,List.mem_cons,List.not_mem_nil,or_false] at hm
  rcases hm with rfl|rfl|rfl<;>rfl
theorem k20_wanted:wantedL k20C [k20D] []=[kCore,kNic]:=by
 unfold wantedL
 rw [k20_seeds]
 refine listOf_eq (by simp only [asc];decide +kernel) fun x=>?_
 constructor
 ·intro h
  rw [List.mem_cons,List.mem_singleton] at h
  rcases h with rfl|rfl
  ·exact .base (by simp) k20_why ((k20_hn _).2 (.inr rfl))
  ·exact .base (by simp) k20_why ((k20_hn _).2 (.inl rfl))
 ·intro h
  cases h with
  | base h1 h2 h3 =>
   rw [List.mem_singleton] at h1
   subst h1
   rcases (k20_hn x).1 h3 with rfl|rfl<;>simp
  | step h1 h2 _ _=>rw [show k20C.modules=k20M from rfl,k20_soft] at h2;cases h2
theorem ascOf_id {l:List ByteArray} (h:asc l):ascOf l=l:=asc_ext (ascOf_spec l).1 h (ascOf_spec l).2.1
theorem k20_unl:unlM k20M [kCore,kNic] [kCore,kHid]=([kHid],[kCore]):=by
 unfold unlM
 rw [ascOf_id (by simp only [asc];decide +kernel)]
 decide +kernel
theorem k20_plan:planL k20M [kCore,kHid] [kCore,kNic]=[(9,kHid),(8,kNic)]:=by
 unfold planL
 rw [k20_unl]
 have hr:restM [kCore] [kCore,kNic]=[kNic]:=by
  unfold restM
  rw [show ([kCore,kNic].filter fun x=>!inM x [kCore])=[kNic] from by decide +kernel]
  exact ascOf_id (by simp [asc])
 simp only [hr]
 decide +kernel
def leC:E → E → Prop
 | .full sz l,.sl sz' l'=>sz=sz'∧leRows l l'
 | .v x,.v y=>x=y
 | _,_=>False
def leCs:List E → List E → Prop
 | [],[]=>True
 | a :: r,b :: r'=>leC a b∧leCs r r'
 | _,_=>False
attribute [push_cast] leC leCs
theorem leC_ok {w:World} {Γ:G} {a b:E} {y:Value} (h:leC a b) (hr:RE w Γ a y):RE w Γ b y:=by
 unfold leC at h
 split at h
 ·obtain ⟨rfl,h⟩:=h
  obtain ⟨h2,_⟩:=hr
  obtain ⟨A,c,xs,h3,h4,h5,h6,h7⟩:=rd_sl.1 h2
  show RD w Γ.I (.sl _ _) _
  rw [rd_sl,h3]
  have hl:=leRows_length h
  exact ⟨A,c,xs,by rw [hl],by omega,by rw [← hl];exact h5,leRows_mem h h6,leRows_ok h h7⟩
 ·subst h;exact hr
 ·exact h.elim
theorem leCs_ok {w:World} {Γ:G}:∀ {a b:List E} {ys:List Value},leCs a b → All2 (RE w Γ) a ys → All2 (RE w Γ) b ys
 | [],[],_,_,h=>h
 | _ :: _,_ :: _,[],_,h=>h.elim
 | _ :: _,_ :: _,_ :: _,h,hr=>⟨leC_ok h.1 hr.1,leCs_ok h.2 hr.2⟩
 | [],_ :: _,_,h,_=>h.elim
 | _ :: _,[],_,h,_=>h.elim
theorem weak_boxrows {N p:Nat} {s:S} (k:Nat) {ty:TypeId} {cs:List E} (cs':List E) (hk:s.o[k]? = some (.box ty cs)) (h:leCs cs cs'):Weak N p s ⟨s.t,setO s.o k (.box ty cs')⟩:=by
 intro Γ a w hA
 have hm:=hA.inv.m
 have hkl:k < s.o.length:=(List.getElem?_eq_some_iff.1 hk).1
 refine ⟨Γ,⟨⟨hA.inv.size,hA.inv.defers,hA.inv.t,⟨by simp [setO,hm.n],fun j o ho=>?_,hm.sep,hm.off,hm.lt,hm.pin⟩⟩,hA.le⟩,Grow.refl _ _ _⟩
 simp only [setO] at ho
 by_cases e:k=j
 ·subst e
  rw [List.getElem?_set_self hkl] at ho
  cases ho
  obtain ⟨g1,xs,g2,g3,g4⟩:=hm.ob k _ hk
  exact ⟨g1,xs,g2,leCs_ok h g3,g4⟩
 ·rw [List.getElem?_set_ne e] at ho
  exact hm.ob j o ho
theorem weak_aggrows {N p:Nat} {s:S} (i:Nat) {cs:List E} (cs':List E) (hi:s.get i=some (.agg cs)) (h:leCs cs cs'):Weak N p s ⟨(i,.agg cs') :: s.t,s.o⟩:=by
 intro Γ a w hA
 refine ⟨Γ,⟨⟨hA.inv.size,hA.inv.defers,fun j q hq=>?_,hA.inv.m⟩,hA.le⟩,Grow.refl _ _ _⟩
 simp only [S.get,look] at hq
 split at hq
 ·rename_i e
  subst e
  cases hq
  obtain ⟨h1,xs,h2,h3⟩:=hA.inv.t j _ hi
  exact ⟨h1,xs,h2,leCs_ok h h3⟩
 ·exact hA.inv.t j q hq
end Go.Proofs.YtmjffgienmcabaaGreatDoor
namespace Go.Proofs.YtmjffgienmcabaaGreatDoor
attribute [local irreducible] PL QL PWPr PCalls Weak RetK Kontr PA
open Go.RowKit
open IntWalk renaming iteOmega → iO, toNatUp → tN
set_option linter.unusedVariables false
set_option linter.unusedSimpArgs false
set_option maxRecDepth 20000
theorem k20_mod {m:Mod} (h:m ∈ k20M):m.aliases.length≤1∧m.needs.length≤1∧m.pre.length≤1∧m.post.length≤1∧m.name≠⟨#[]⟩∧(∀ x ∈ m.needs,x.size≤10)∧m.name.size≤10:=by
 have:∀ m ∈ k20M,m.aliases.length≤1∧m.needs.length≤1∧m.pre.length≤1∧m.post.length≤1∧m.name≠⟨#[]⟩∧(∀ x ∈ m.needs,x.size≤10)∧m.name.size≤10:=by decide +kernel
 exact this m h
theorem k20_ok:CfgOk2 k20C:=by
 have hz:(10:Nat)≤maxLen:=by unfold maxLen;omega
 refine ⟨⟨⟨by decide,fun m hm=>by have:=k20_mod hm;omega,fun m hm=>by have:=k20_mod hm;omega,fun m hm=>by have:=k20_mod hm;omega,by decide +kernel,fun m hm=>(k20_mod hm).2.2.2.2.1⟩,⟨fun x hx=>?_⟩,by simp [k20C]⟩,fun n x hx=>(by rw [show k20C.modules=k20M from rfl,k20_soft] at hx;cases hx),fun n=>(by rw [show k20C.modules=k20M from rfl,k20_soft];simp)⟩
 obtain ⟨m,hm,hx⟩:=List.mem_flatMap.1 hx
 exact Nat.le_trans ((k20_mod hm).2.2.2.2.2.1 x hx) hz
theorem k20_seed:SeedOk k20C:=by
 have hz:(10:Nat)≤maxLen:=by unfold maxLen;omega
 refine ⟨⟨by decide,fun m hm=>by have:=k20_mod hm;omega,by decide,by decide⟩,?_,by decide,fun m hm=>Nat.le_trans (k20_mod hm).2.2.2.2.2.2 hz⟩
 have:∀ y ∈ entsC k20C,y.pat.size≤10:=by decide +kernel
 intro y hy
 have:=this y hy
 omega
theorem k20_ask:AskOk [k20D] []:=by
 refine ⟨by simp,fun d hd=>?_,by simp,fun r hr=>by cases hr⟩
 rw [List.mem_singleton] at hd
 subst hd
 decide
set_option maxHeartbeats 4000000 in
theorem known20_pure:PCalls Tryz.prog 5 [] [] fun r os=>r = .c (.v (.bool true))∧os=[]:=by
 have hw:=wanted_pure k20C [k20D] [] k20_seed k20_ok k20_ask
 rw [k20_wanted] at hw
 have hp:=plan_pureM k20C [kCore,kHid] [kCore,kNic] k20_ok (by decide) (by decide)
 rw [show k20C.modules=k20M from rfl,k20_plan] at hp
 have s1:=same_pure [kCore,kNic] [kCore,kNic] (by decide) (by decide)
 have s2:=sameops_pure [(9,kHid),(8,kNic)] [(9,kHid),(8,kNic)] (by decide) (by decide)
 refine pcalls_of Tryz.func5 rfl (by simp [Tryz.ntmps5]) ?_
 rw [Tryz.ntmps5,Tryz.results5]
 push_cast [iO,tN]
 repeat' (first|((first|refine pG ?_|refine pQ ?_|refine pU ?_);push_cast [iO,tN])|(refine pif (fun h=>?_) (fun h=>?_)<;>first|exact pN h|push_cast [iO,tN]))
 refine pl_weak (weak_boxrows 0 (k20C.e.take 1++List.replicate 4 (.v (.slice none 0 0))) rfl (by simp [k20C,k20M,kNic,kCore,kHid,Cfg.e,Cfg.d,Mod.d,D.e,leCs,leC,leRows,leDs,leD,isEmp,strD])) ?_
 refine pl_weak (weak_boxrows 1 (trE [k20D]) rfl (by simp [k20D,trE,Dev.d,D.e,leCs,leC,leRows,leDs,leD,isEmp,strD])) ?_
 refine pl_weak (weak_aggrows 16 (k20C.e.take 1++List.replicate 4 (.v (.slice none 0 0))) rfl (by simp [k20C,k20M,kNic,kCore,kHid,Cfg.e,Cfg.d,Mod.d,D.e,leCs,leC,leRows,leDs,leD,isEmp,strD])) ?_
 refine pl_weak (weak_aggrows 17 (trE [k20D]) rfl (by simp [k20D,trE,Dev.d,D.e,leCs,leC,leRows,leDs,leD,isEmp,strD])) ?_
 have hb:k20C.blocked=[]:=rfl
 have hof:k20C.off=[]:=rfl
 have hk:k20C.keep=[]:=rfl
 have hx:k20C.extra=[]:=rfl
 refine pl_weak (s':=⟨[(17,.agg (trE [k20D])),(16,.agg k20C.e),(2,.c (.ptr 1 0)),(1,.c (.ptr 0 0)),(0,.c (.v (.bool false)))],[.box 32 k20C.e,.box 36 (trE [k20D])]⟩) (by (simp only [Cfg.e,Cfg.d,List.map_cons,List.map_nil,D.e,List.take_succ_cons,List.take_zero,List.replicate,List.cons_append,List.nil_append,hb,hof,hk,hx]);(refine weak_fg ?_;push_cast [iO,tN])) ?_
 generalize k20C=c at *
 generalize [k20D]=ds at *
 simp only [kNic,kCore,kHid,List.map_cons,List.map_nil,strD,opR,List.length_cons,List.length_nil,decide_true,Nat.reduceAdd,decide_eq_true_eq] at hw hp s1 s2
 repeat' (first |  (refine pl_call2 false [] rfl rfl (by kernel_rfl) hw ?_ nofun ?_;push_cast [iO,tN];rintro r os ⟨rfl,rfl⟩;refine pl_weak (weak_frz 2 (by omega)) ?_;push_cast [iO,tN];refine pl_of_pops ?_;push_cast [iO,tN])|((refine plc [] (hp) ?_ ?_;push_cast [iO,tN];rintro r os ⟨rfl,rfl⟩;push_cast [iO,tN]))|((refine plc [] (s1) ?_ ?_;push_cast [iO,tN];rintro r os ⟨rfl,rfl⟩;push_cast [iO,tN]))|((refine plc [] (s2) ?_ ?_;push_cast [iO,tN];rintro r os ⟨rfl,rfl⟩;push_cast [iO,tN]))  | ((first|refine pG ?_|refine pQ ?_|refine pU ?_);push_cast [iO,tN])|(refine pif (fun h=>?_) (fun h=>?_)<;>first|exact pN h|push_cast [iO,tN]))
 (refine retK_of [] ?_;push_cast [iO,tN])
set_option maxRecDepth 20000
theorem askOk_of {l:List Dev} {rs:List Rec} (hw:WMt l 7) (hr:RecsOk rs):AskOk l rs:=by
 have h1:=hw.len
 have h2:=hr.len
 refine ⟨by omega,fun d hd=>by have:=(hw.dev d hd).1.al;omega,by omega,fun r hx=>?_⟩
 obtain ⟨h3,h4⟩:=hr.load r hx
 exact ⟨by omega,fun s hs=>by have:=h4 s hs;omega⟩
theorem RecsOk.take {rs:List Rec} (h:RecsOk rs) (g:Nat):RecsOk (rs.take g):=⟨by have:=h.len;rw [List.length_take];omega,fun r hr=>h.load r (List.mem_of_mem_take hr)⟩
theorem WMt.none (n:Nat):WMt [] n:=WMt.nil n
theorem wanted_len (c:Cfg) (ds:List Dev) (rs:List Rec):(wantedL c ds rs).length≤c.modules.length:=(clos_spec c.modules c.off (seedsL c ds rs)).2.2
set_option maxHeartbeats 16000000 in
theorem grows20_pure (L:List Int) (hL:∀ x ∈ L,-9223372036854775808≤x∧x≤9223372036854775807) (hl:L.length≤9223372036854775807) :
  PCalls Tryz.prog 4 [.c (.sl 1 (L.map fun x=>[D.v (.int .i64 x)]))] [] fun r os=>r = .c (.v (.bool true))∧os=[]:=by
 refine pcalls_of Tryz.func4 rfl (by simp [Tryz.ntmps4]) ?_
 rw [Tryz.ntmps4,Tryz.results4]
 push_cast [iO,tN]
 have cB:CutB 13 []:=trivial
 repeat' (first |  ((refine plc [0] (wconfig_full L 0 (by omega) hL hl) ?_ ?_;push_cast [iO,tN];rintro r os ⟨c,k1,⟨⟨hc,hwc⟩,hk1⟩,rfl,rfl⟩;push_cast [iO,tN]))|((refine plc [0] (wtreem_ex L k1 7 (by omega) (by omega) hL hl) ?_ ?_;push_cast [iO,tN];rintro r os ⟨l,k2,hw,hk2,rfl,rfl⟩;push_cast [iO,tN]))|((refine plc [0] (records20_ex L k2 l (by omega) (by have:=hw.len;omega) hL hl) ?_ ?_;push_cast [iO,tN];rintro r os ⟨rs,k3,⟨hr,hk3⟩,rfl,rfl⟩;push_cast [iO,tN]))  | ((first|refine pC ?_|refine pQC ?_|refine pU ?_);push_cast [iO,tN])|(refine pif (fun h=>?_) (fun h=>?_)<;>first|exact pN h|push_cast [iO,tN]))
 have hc2:=hc.ok
 have hse:=wcfg_seed hwc
 have hml:=hc.len
 have hrl:=hr.len
 have hW:=fun ds rs h=>wanted_pure c ds rs hse hc2 h
 have hwl:=fun ds rs=>wanted_len c ds rs
 have w1:=hW l rs (askOk_of hw hr)
 have m1:=wanted_mono (c:=c) (ds:=l) (ds':=l) (rs:=[]) (rs':=rs) (fun d h=>h) (fun r h=>by cases h)
 have m2:=fun g=>wanted_mono (c:=c) (ds:=l) (ds':=l) (rs:=rs.take g) (rs':=rs) (fun d h=>h) (fun r h=>List.mem_of_mem_take h)
 have m3:=wanted_mono (c:=c) (ds:=[]) (ds':=l) (rs:=rs) (rs':=rs) (fun d h=>by cases h) (fun r h=>h)
 obtain ⟨A,hA⟩:∃ A,wantedL c l rs=A:=⟨_,rfl⟩
 have hAl:A.length≤10:=by have:=hwl l rs;rw [hA] at this;omega
 rw [hA] at w1 m1 m3
 simp only [hA] at m2
 have e1:=List.take_of_length_le (l:=A.map strD) (i:=A.length) (by simp)
 refine pl_call2 false [] rfl rfl (by kernel_rfl) w1 ?_ nofun ?_
 ·push_cast [iO,tN]
 push_cast [iO,tN]
 rintro r os ⟨rfl,rfl⟩
 refine pl_weak (weak_frz 3 (by omega)) ?_
 push_cast [iO,tN,e1]
 refine pl_of_pops ?_
 push_cast [iO,tN]
 have w3:=hW [] rs (askOk_of (WMt.nil 7) hr)
 obtain ⟨C,hC⟩:∃ C,wantedL c [] rs=C:=⟨_,rfl⟩
 have hCl:C.length≤10:=by have:=hwl [] rs;rw [hC] at this;omega
 rw [hC] at w3 m3
 have e3:=List.take_of_length_le (l:=C.map strD) (i:=C.length) (by simp)
 by_cases hpos:0 < rs.length
 case neg =>
  have hr0:rs=[]:=List.eq_nil_of_length_eq_zero (by omega)
  subst hr0
  have w2:=hW l [] (askOk_of hw hr)
  rw [hA] at w2
  have mB:∀ x ∈ A,x ∈ A:=fun x h=>h
  obtain ⟨B,hB⟩:∃ B,A=B:=⟨_,rfl⟩
  have hBl:B.length≤10:=hB ▸ hAl
  have e2:(B.map strD).take B.length=B.map strD:=List.take_of_length_le (by simp)
  have mB:∀ x ∈ B,x ∈ A:=fun x h=>hB ▸ h
  have w2':PCalls Tryz.prog 12 [.agg c.e,.agg (trE l),.c (.sl 12 (([]:List Rec).map Rec.d))] [] fun r os=>r = .c (.own 0 B.length)∧os=[.arr 9 1 (B.map strD)]:=by rw [← hB];exact w2
  clear w2 hB
  repeat' (first |  (refine pl_call2 false [] rfl rfl (by kernel_rfl) w2' ?_ nofun ?_;push_cast [iO,tN];rintro r os ⟨rfl,rfl⟩;refine pl_weak (weak_frz 4 (by omega)) ?_;push_cast [iO,tN,e2];refine pl_of_pops ?_;push_cast [iO,tN])|(refine pl_call2 false [] rfl rfl (by kernel_rfl) w3 ?_ nofun ?_;push_cast [iO,tN];rintro r os ⟨rfl,rfl⟩;refine pl_weak (weak_frz 5 (by omega)) ?_;push_cast [iO,tN,e3];refine pl_of_pops ?_;push_cast [iO,tN])  | ((first|refine pC ?_|refine pQC ?_|refine pU ?_);push_cast [iO,tN])|(refine pif (fun h=>?_) (fun h=>?_)<;>first|exact pN h|push_cast [iO,tN]))
  obtain ⟨E,hE⟩:∃ E,B++C=E:=⟨_,rfl⟩
  have hEl:E.length=B.length+C.length:=by rw [← hE,List.length_append]
  have e4:(B.map strD++C.map strD).take (B.length+C.length)=E.map strD:=by rw [← List.map_append,hE];exact List.take_of_length_le (by rw [List.length_map];omega)
  have mE:∀ x ∈ E,x ∈ A:=fun x hx=>by
   rw [← hE] at hx
   exact (List.mem_append.1 hx).elim (mB x) (m3 x)
  refine pwp_weak (weak_frz 6 (by omega)) ?_
  have e5:B.map strD++C.map strD=E.map strD:=by rw [← List.map_append,hE]
  have e6:(E.map strD).take (B.length+C.length)=E.map strD:=List.take_of_length_le (by rw [List.length_map];omega)
  push_cast [iO,tN,e4,e5,e6]
  (apply pwp_loop3 (α:=Nat) 13 [] (fun i=>[(12,.c (.v (.int .i64 i)))]) (fun i=>[]) (fun i=>i≤E.length) (fun i=>E.length - i) (0);(focus ((try push_cast [iO,tN]);rfl));(focus exact (by omega));(focus ((refine weak_fg ?_;try push_cast [iO,tN]))))
  intro i hi
  push_cast [iO,tN]
  by_cases hit:i < E.length
  ·have hin:=in_pure A (E.getD i default) (by omega)
   rw [inM_iff.2 (mE _ (by rw [getD_lt E hit];exact List.getElem_mem _))] at hin
   repeat' (first |  ((refine plc [] (hin) ?_ ?_;push_cast [iO,tN];rintro r os ⟨rfl,rfl⟩;push_cast [iO,tN]))  | ((first|refine pC ?_|refine pQC ?_|refine pU ?_);push_cast [iO,tN])|(refine pif (fun h=>?_) (fun h=>?_)<;>first|exact pN h|push_cast [iO,tN]))
   exact ⟨i+1,by omega,by (refine weak_fg ?_;push_cast [iO,tN]),by omega⟩
  ·repeat' (first |  ((refine plc [] (known20_pure) ?_ ?_;push_cast [iO,tN];rintro r os ⟨rfl,rfl⟩;push_cast [iO,tN]))  | ((first|refine pC ?_|refine pQC ?_|refine pU ?_);push_cast [iO,tN])|(refine pif (fun h=>?_) (fun h=>?_)<;>first|exact pN h|push_cast [iO,tN]))
   (refine retK_of [] ?_;push_cast [iO,tN])
 have hpos':(0:Int) < (rs.length:Int):=by omega
 have hng:=(next_ex L k3 ((rs.length:Int)+1) (by omega) (by omega) (by omega) hL hl).mono (R':=fun r os=>∃ g:Nat,g≤rs.length∧r = .c (.v (.int .i64 g))∧os=[tape L (k3+1)]) (by
  rintro r os ⟨v,⟨a,b⟩,rfl,rfl⟩
  exact ⟨v.toNat,by omega,by rw [Int.toNat_of_nonneg a],rfl⟩)
 repeat' (first|((refine plc [0] (hng) ?_ ?_;push_cast [iO,tN,hpos'];rintro r os ⟨g,hg,rfl,rfl⟩;push_cast [iO,tN,hpos']))|((first|refine pC ?_|refine pQC ?_|refine pU ?_);push_cast [iO,tN,hpos'])|(refine pif (fun h=>?_) (fun h=>?_)<;>first|exact pN h|push_cast [iO,tN,hpos']))
 have w2:=hW l (rs.take g) (askOk_of hw (hr.take g))
 have mB:=m2 g
 obtain ⟨B,hB⟩:∃ B,wantedL c l (rs.take g)=B:=⟨_,rfl⟩
 have hBl:B.length≤10:=by have:=hwl l (rs.take g);rw [hB] at this;omega
 rw [hB] at w2 mB
 have e2:(B.map strD).take B.length=B.map strD:=List.take_of_length_le (by simp)
 rw [List.map_take] at w2
 repeat' (first |  (refine pl_call2 false [] rfl rfl (by kernel_rfl) w2 ?_ nofun ?_;push_cast [iO,tN];rintro r os ⟨rfl,rfl⟩;refine pl_weak (weak_frz 4 (by omega)) ?_;push_cast [iO,tN,e2];refine pl_of_pops ?_;push_cast [iO,tN])|(refine pl_call2 false [] rfl rfl (by kernel_rfl) w3 ?_ nofun ?_;push_cast [iO,tN];rintro r os ⟨rfl,rfl⟩;refine pl_weak (weak_frz 5 (by omega)) ?_;push_cast [iO,tN,e3];refine pl_of_pops ?_;push_cast [iO,tN])  | ((first|refine pC ?_|refine pQC ?_|refine pU ?_);push_cast [iO,tN])|(refine pif (fun h=>?_) (fun h=>?_)<;>first|exact pN h|push_cast [iO,tN]))
 obtain ⟨E,hE⟩:∃ E,B++C=E:=⟨_,rfl⟩
 have hEl:E.length=B.length+C.length:=by rw [← hE,List.length_append]
 have e4:(B.map strD++C.map strD).take (B.length+C.length)=E.map strD:=by rw [← List.map_append,hE];exact List.take_of_length_le (by rw [List.length_map];omega)
 have mE:∀ x ∈ E,x ∈ A:=fun x hx=>by
  rw [← hE] at hx
  exact (List.mem_append.1 hx).elim (mB x) (m3 x)
 refine pwp_weak (weak_frz 6 (by omega)) ?_
 have e5:B.map strD++C.map strD=E.map strD:=by rw [← List.map_append,hE]
 have e6:(E.map strD).take (B.length+C.length)=E.map strD:=List.take_of_length_le (by rw [List.length_map];omega)
 push_cast [iO,tN,e4,e5,e6]
 (apply pwp_loop3 (α:=Nat) 13 [] (fun i=>[(12,.c (.v (.int .i64 i)))]) (fun i=>[]) (fun i=>i≤E.length) (fun i=>E.length - i) (0);(focus ((try push_cast [iO,tN]);rfl));(focus exact (by omega));(focus ((refine weak_fg ?_;try push_cast [iO,tN]))))
 intro i hi
 push_cast [iO,tN]
 by_cases hit:i < E.length
 ·have hin:=in_pure A (E.getD i default) (by omega)
  rw [inM_iff.2 (mE _ (by rw [getD_lt E hit];exact List.getElem_mem _))] at hin
  repeat' (first |  ((refine plc [] (hin) ?_ ?_;push_cast [iO,tN];rintro r os ⟨rfl,rfl⟩;push_cast [iO,tN]))  | ((first|refine pC ?_|refine pQC ?_|refine pU ?_);push_cast [iO,tN])|(refine pif (fun h=>?_) (fun h=>?_)<;>first|exact pN h|push_cast [iO,tN]))
  exact ⟨i+1,by omega,by (refine weak_fg ?_;push_cast [iO,tN]),by omega⟩
 ·repeat' (first |  ((refine plc [] (known20_pure) ?_ ?_;push_cast [iO,tN];rintro r os ⟨rfl,rfl⟩;push_cast [iO,tN]))  | ((first|refine pC ?_|refine pQC ?_|refine pU ?_);push_cast [iO,tN])|(refine pif (fun h=>?_) (fun h=>?_)<;>first|exact pN h|push_cast [iO,tN]))
  (refine retK_of [] ?_;push_cast [iO,tN])
end Go.Proofs.YtmjffgienmcabaaGreatDoor
namespace Go.Proofs.YtmjffgienmcabaaGreatDoor
open Go.ChangeShapes Go.WideShapes Go.ChangeAt Go.RowKit
open Go.ChangeMaps (open_string shut_string)
set_option linter.unusedVariables false
set_option linter.unusedSimpArgs false
theorem int_bd {n:Int} (h:(Lit.int .i64 n).wf=true) : -9223372036854775808≤n∧n≤9223372036854775807:=by
 simpa [Lit.wf,IntKind.min,IntKind.max,IntKind.signed,IntKind.bits] using h
theorem trod_rows {H:Type} {enc:TypeId × Value → H} {P:Program} {W:World} {t e:TypeId} {size fuel:Nat} {A:Option Addr} {n c:Nat} {x:DataW H × List MemPlace}
  (ht:P.underlying t=some (.slice e)) (hC:P.cellsOf e=size) (hp:0 < size) (h:DataW.trod enc P W 0 (fun _=>true) true fuel t [.slice A n c]=some x) :
  ∃ F:Nat → List Value,n≤c∧c≤maxLen∧(∀ i,i < n → (F i).length=size∧∃ m y,DataW.trod enc P W 0 (fun _=>true) true m e (F i)=some y) ∧
   Rd W (fun _=>True) size A n ((List.range n).flatMap F):=by
 rcases Go.Deep.open_slice ht h with ⟨hcs,_⟩|⟨a,len,cap,m,fu,D,Pl,hcs,_,hl,hm,hmm,_,hi⟩
 ·simp at hcs
  obtain ⟨rfl,rfl,rfl⟩:=hcs
  exact ⟨fun _=>[],Nat.le_refl _,by simp [maxLen],fun i hi=>absurd hi (by omega),by simpa using Rd.nil⟩
 ·simp at hcs
  obtain ⟨rfl,rfl,rfl⟩:=hcs
  simp only [if_true] at hmm
  subst hmm
  obtain ⟨F,hF⟩:=Go.Deep.choose_lt (n:=n) (p:=fun i (cs':List Value)=>W.cells? 0 (a.add (i * P.cellsOf e)) (P.cellsOf e)=some cs'∧DataW.trod enc P W 0 (fun _=>true) true fu e cs'=some (D i,Pl i))
   (fun i h=>hi i (by omega))
  have hlen:∀ i,i < n → (F i).length=size:=fun i h=>by
   have:=(World.cells?_some (hF i h).1).2.1
   rw [this,hC]
  have hflat:∀ k,k≤n → ((List.range k).flatMap F).length=k * size:=by
   intro k
   induction k with
   | zero=>intro _;simp
   | succ k ih =>
    intro hk
    rw [List.range_succ,List.flatMap_append,List.length_append,ih (by omega)]
    simp [hlen k (by omega),Nat.add_mul]
  refine ⟨F,hl,hm,fun i h=>⟨hlen i h,fu,_,(hF i h).2⟩,hflat n (Nat.le_refl _),fun hn=>?_⟩
  have hcell:∀ i,i < n → ∀ j,j < size → W.cell? ((a.add (i * size)).add j)=(F i)[j]?:=fun i h j hj=>by
   have h1:=(World.cells?_some (hF i h).1).2.2 j (by rw [hC];exact hj)
   rw [hC] at h1
   exact h1
  have hget:∀ k,k≤n → ∀ j,((List.range k).flatMap F)[j]? = if j < k * size then (F (j / size))[j % size]? else none:=by
   intro k
   induction k with
   | zero=>intro _ j;simp
   | succ k ih =>
    intro hk j
    rw [List.range_succ,List.flatMap_append]
    by_cases hj:j < k * size
    ·rw [List.getElem?_append_left (by rw [hflat k (by omega)];exact hj),ih (by omega),if_pos hj,if_pos (by rw [Nat.add_mul];omega)]
    ·rw [List.getElem?_append_right (by rw [hflat k (by omega)];omega),hflat k (by omega)]
     simp only [List.flatMap_cons,List.flatMap_nil,List.append_nil]
     by_cases hj2:j < (k+1) * size
     ·have hj3:j - k * size < size:=by rw [Nat.add_mul] at hj2;omega
      have e1:j / size=k:=by
       rw [show j=(j - k * size)+k * size by omega,Nat.add_mul_div_right _ _ hp,Nat.div_eq_of_lt hj3];omega
      have e2:j % size=j - k * size:=by
       conv=>lhs;rw [show j=(j - k * size)+k * size by omega]
       rw [Nat.add_mul_mod_self_right,Nat.mod_eq_of_lt hj3]
      rw [if_pos hj2,e1,e2]
     ·rw [if_neg hj2,List.getElem?_eq_none (by rw [hlen k (by omega)];rw [Nat.add_mul] at hj2;omega)]
  obtain ⟨b,off,spot⟩:=a
  have h0:=hcell 0 (by omega) 0 hp
  have hs:spot=none:=by
   have hx:(F 0)[0]? = some ((F 0)[0]'(by rw [hlen 0 (by omega)];exact hp)):=List.getElem?_eq_getElem _
   rw [hx] at h0
   simpa [Addr.add] using World.cell?_spot h0
  subst hs
  have h0b:b < W.heap.size:=by
   have hx:(F 0)[0]? = some ((F 0)[0]'(by rw [hlen 0 (by omega)];exact hp)):=List.getElem?_eq_getElem _
   rw [hx] at h0
   have:=World.block_lt_of_cell? _ _ h0
   simpa [Addr.add_lit] using this
  refine ⟨b,off,rfl,trivial,h0b,fun j u hu=>?_⟩
  rw [hget n (Nat.le_refl _)] at hu
  split at hu
  ·rename_i hj
   have hq:j / size < n:=Nat.div_lt_of_lt_mul (by rw [Nat.mul_comm];exact hj)
   have h1:=hcell (j / size) hq (j % size) (Nat.mod_lt _ hp)
   rw [Addr.add_lit,Addr.add_lit,Nat.add_assoc,Nat.mul_comm,Nat.div_add_mod] at h1
   rw [h1,hu]
  ·cases hu
end Go.Proofs.YtmjffgienmcabaaGreatDoor
