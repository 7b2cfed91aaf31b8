/- What the program computes, and the plain laws of it, part 36. -/
import Derived.Lib.IndexAny
import Derived.WideKeyEntry
import Derived.ProofKit
import Derived.OpenShut
import Derived.ShutString
import Derived.ChangeOld
import Derived.Deep.Slices
import Derived.Deep.Fields
import Derived.Test.YthhfpcbpiphfiaaR35
namespace Go.Proofs.Ythhfpcbpiphfiaa
open Go.RowKit
open IntWalk renaming iteOmega → iO, toNatUp → tN
set_option linter.unusedVariables false
set_option linter.unusedSimpArgs false
set_option maxRecDepth 20000
def blockC (c:Cfg) (m:ByteArray):Cfg:={ c with blocked:=c.blocked++[m] }
def extraC (c:Cfg) (m:ByteArray):Cfg:={ c with extra:=c.extra++[⟨⟨#[42]⟩,m⟩] }
def byX (c:Cfg) (m s:ByteArray):Bool:=c.extra.any fun x=>decide (x.value=m) && matchM x.name s
theorem found_ne {c:Cfg} {s:ByteArray} {mo:Mod} (h:foundR c s mo=true):s≠⟨#[]⟩:=by
 unfold foundR at h
 rw [Bool.and_eq_true,decide_eq_true_eq] at h
 exact h.1
theorem inM_snoc (x m:ByteArray) (l:List ByteArray):inM x (l++[m])=(inM x l || decide (x=m)):=by
 rw [Bool.eq_iff_iff,inM_iff,Bool.or_eq_true,inM_iff,decide_eq_true_eq,List.mem_append,List.mem_singleton]
theorem block_found (c:Cfg) (m s:ByteArray) (mo:Mod):foundR (blockC c m) s mo=(foundR c s mo && (decide (mo.name≠m) || byX c m s)):=by
 unfold foundR blockC byX
 simp only [inM_snoc]
 by_cases hs:s≠⟨#[]⟩
 ·rw [decide_eq_true hs,Bool.true_and,Bool.true_and]
  by_cases hm:mo.name=m
  ·subst hm
   simp only [decide_true,Bool.or_true,Bool.not_true,Bool.and_false,Bool.false_or,ne_eq,not_true_eq_false,decide_false]
   cases (c.extra.any fun x=>decide (x.value=mo.name) && matchM x.name s)<;>simp
  ·simp [hm]
 ·rw [decide_eq_false hs];rfl
theorem block_in {c:Cfg} {m s x:ByteArray} (hx:x ∈ findA c s):inM x (findA (blockC c m) s)=(decide (x≠m) || byX c m s):=by
 obtain ⟨mo,h1,h2,rfl⟩:=((findA_spec c s).2 x).1 hx
 rw [Bool.eq_iff_iff,inM_iff,(findA_spec (blockC c m) s).2]
 constructor
 ·rintro ⟨mo2,g1,g2,g3⟩
  rw [block_found,Bool.and_eq_true] at g2
  rw [← g3]
  exact g2.2
 ·intro h
  refine ⟨mo,h1,?_,rfl⟩
  rw [block_found,h2,h]
  rfl
theorem block_sub {c:Cfg} {m s x:ByteArray} (hx:x ∈ findA (blockC c m) s):x ∈ findA c s:=by
 obtain ⟨mo,h1,h2,rfl⟩:=((findA_spec (blockC c m) s).2 x).1 hx
 rw [block_found,Bool.and_eq_true] at h2
 exact ((findA_spec c s).2 mo.name).2 ⟨mo,h1,h2.1,rfl⟩
theorem block_len (c:Cfg) (m s:ByteArray):(findA (blockC c m) s).length≤(findA c s).length :=
 nodup_len _ _ (asc_nodup (findA_spec (blockC c m) s).1) fun _ hx=>block_sub hx
theorem extra_found (c:Cfg) (m s:ByteArray) (mo:Mod) (hs:s≠⟨#[]⟩) (h:matchM ⟨#[42]⟩ s=true):foundR (extraC c m) s mo=(foundR c s mo || decide (mo.name=m)):=by
 unfold foundR extraC matsA
 simp only [List.any_append,List.any_cons,List.any_nil,h,decide_eq_true hs,Bool.true_and,Bool.and_true,Bool.or_false]
 rw [show decide (m=mo.name)=decide (mo.name=m) from decide_eq_decide.2 ⟨Eq.symm,Eq.symm⟩,Bool.or_assoc]
theorem extra_in (c:Cfg) (m s:ByteArray) (h:s≠⟨#[]⟩ → matchM ⟨#[42]⟩ s=true):inM m (findA (extraC c m) s)=((modOf c.modules m).isSome && decide (s≠⟨#[]⟩)):=by
 rw [Bool.eq_iff_iff,inM_iff,(findA_spec (extraC c m) s).2,Bool.and_eq_true,decide_eq_true_eq]
 constructor
 ·rintro ⟨mo,g1,g2,g3⟩
  refine ⟨?_,found_ne g2⟩
  unfold modOf
  rw [List.find?_isSome]
  exact ⟨mo,g1,by simpa using g3⟩
 ·rintro ⟨g1,g2⟩
  unfold modOf at g1
  rw [List.find?_isSome] at g1
  obtain ⟨mo,g3,g4⟩:=g1
  have g5:mo.name=m:=by simpa using g4
  refine ⟨mo,g3,?_,g5⟩
  rw [extra_found c m s mo g2 (h g2),decide_eq_true g5,Bool.or_true]
theorem extra_len (c:Cfg) (m s:ByteArray) (h:s≠⟨#[]⟩ → matchM ⟨#[42]⟩ s=true):(findA (extraC c m) s).length≤(findA c s).length+1:=by
 have h1:=nodup_len _ (findA c s++[m]) (asc_nodup (findA_spec (extraC c m) s).1) fun x hx=>by
  obtain ⟨mo,g1,g2,rfl⟩:=((findA_spec (extraC c m) s).2 x).1 hx
  have hs:=found_ne g2
  rw [extra_found c m s mo hs (h hs),Bool.or_eq_true,decide_eq_true_eq] at g2
  rw [List.mem_append,List.mem_singleton]
  rcases g2 with g2|g2
  ·exact .inl (((findA_spec c s).2 mo.name).2 ⟨mo,g1,g2,rfl⟩)
  ·exact .inr g2
 rw [List.length_append,List.length_singleton] at h1
 exact h1
theorem k18_star:altsM ⟨#[42]⟩=some [[starEl]]:=by
 unfold altsM
 rw [altGo,dif_neg (by decide),if_neg (by decide),if_pos (by decide)]
 rw [altGo,dif_pos (by decide)]
 rfl
theorem star_all {s:ByteArray} (h:s.data.toList.all textB=true) (h2:mat [starEl] s.data.toList=true):matchM ⟨#[42]⟩ s=true:=by
 unfold matchM
 rw [show globM ⟨#[42]⟩=0 from by unfold globM;rw [if_neg (by decide),if_neg (by decide +kernel),k18_star],k18_star,h]
 simp only [List.any_cons,List.any_nil,h2]
 rfl
end Go.Proofs.Ythhfpcbpiphfiaa
namespace Go.Proofs.Ythhfpcbpiphfiaa
attribute [local irreducible] PL QL PWPr PCalls Weak RetK Kontr PA
open Go.RowKit
open IntWalk renaming iteOmega → iO, toNatUp → tN
set_option linter.unusedVariables false
set_option linter.unusedSimpArgs false
set_option maxRecDepth 20000
def wm18:List ByteArray:=[⟨#[104,105,100]⟩,⟨#[110,105,99]⟩,⟨#[111,116,104,101,114]⟩,⟨#[99,111,114,101]⟩]
theorem SmallC.block {c:Cfg} (h:SmallC c) (m:ByteArray) (hb:c.blocked.length≤10):SmallC (blockC c m):=⟨h.mods,h.als,by show (c.blocked++[m]).length≤20;rw [List.length_append,List.length_singleton];omega,h.ext,h.pat⟩
theorem SmallC.extra {c:Cfg} (h:SmallC c) (m:ByteArray) (hb:c.extra.length≤10):SmallC (extraC c m):=⟨h.mods,h.als,h.bl,by show (c.extra++[_]).length≤20;rw [List.length_append,List.length_singleton];omega,fun y hy=>by
 rcases List.mem_append.1 hy with hy|hy
 ·exact h.pat y hy
 ·rw [List.mem_singleton.1 hy];show (⟨#[42]⟩:ByteArray).size≤10;decide⟩
theorem al18_star (L:List Int) (k:Nat):matchM ⟨#[42]⟩ (pick L k al18)=true:=by
 have h:∀ s ∈ al18,s.data.toList.all textB=true∧mat [starEl] s.data.toList=true:=by decide +kernel
 have hm:pick L k al18 ∈ al18∨pick L k al18=⟨#[]⟩:=by
  unfold pick
  by_cases hlt:(fold (tapeAt L k) al18.length).toNat < al18.length
  ·rw [getD_lt al18 hlt];exact .inl (List.getElem_mem _)
  ·rw [List.getD_eq_getElem?_getD,List.getElem?_eq_none (by omega)];exact .inr rfl
 rcases hm with hm|hm
 ·exact star_all (h _ hm).1 (h _ hm).2
 ·rw [hm];exact star_all (by decide) (by decide +kernel)
theorem m18_pure (L:List Int) (k:Nat) (hk:k < 1000000) (hL:∀ x ∈ L,-9223372036854775808≤x∧x≤9223372036854775807) (hl:L.length≤9223372036854775807) :
  PCalls Try.prog 15 [.c (.ptr 0 0),.c (.sl 1 [[.v (.string ⟨#[104,105,100]⟩)],[.v (.string ⟨#[110,105,99]⟩)],[.v (.string ⟨#[111,116,104,101,114]⟩)],[.v (.string ⟨#[99,111,114,101]⟩)]])] [tape L k] fun r os=>r = .c (.v (.string (pick L k wm18)))∧os=[tape L (k+1)] :=
 one_pure L k wm18 hk (by decide) (by decide) hL hl
def byJ (c:Cfg) (m s:ByteArray) (j:Nat):Bool:=(c.extra.take j).any fun x=>decide (x.value=m) && matchM x.name s
theorem byJ_next (c:Cfg) (m s:ByteArray) {j:Nat} (h:j < c.extra.length):byJ c m s (j+1)=(byJ c m s j || (decide ((c.extra.getD j default).value=m) && matchM (c.extra.getD j default).name s)):=by
 unfold byJ
 rw [List.take_succ_eq_append_getElem h,List.any_append,getD_lt _ h]
 simp
set_option maxHeartbeats 16000000 in
theorem blocks18_pure (L:List Int) (hL:∀ x ∈ L,-9223372036854775808≤x∧x≤9223372036854775807) (hl:L.length≤9223372036854775807) :
  PCalls Try.prog 4 [.c (.sl 1 (L.map fun x=>[D.v (.int .i64 x)]))] [] fun r os=>r = .c (.v (.bool true))∧os=[]:=by
 refine pcalls_of Try.func4 rfl (by simp [Try.ntmps4]) ?_
 rw [Try.ntmps4,Try.results4]
 push_cast [iO,tN]
 have cB:CutB 16 [41,71,89]:=trivial
 have hsz:=fun k=>pick_le (L:=L) (k:=k) (l:=al18) (n:=300) (by decide) (by decide +kernel)
 have hstar:=al18_star L
 repeat' (first |  ((refine plc [0] (wconfig_full L 0 (by omega) hL hl) ?_ ?_;push_cast [iO,tN];rintro r os ⟨c,k1,⟨⟨hc,hwc⟩,hk1⟩,rfl,rfl⟩;push_cast [iO,tN]))  | ((first|refine pC ?_|refine pQC ?_|refine pU ?_);push_cast [iO,tN])|(refine pif (fun h=>?_) (fun h=>?_)<;>first|exact pN h|push_cast [iO,tN]))
 have hsc:=hwc.smallC
 have hbl:=hwc.bl
 have hxl:=hwc.ext
 have hA:=walias18_pure L k1 (by omega) hL hl
 have hM:=m18_pure L (k1+1) (by omega) hL hl
 have hsz1:=hsz k1
 have hst1:=hstar k1
 obtain ⟨s,hs⟩:∃ s,pick L k1 al18=s:=⟨_,rfl⟩
 obtain ⟨m,hm⟩:∃ m,pick L (k1+1) wm18=m:=⟨_,rfl⟩
 rw [hs] at hsz1 hst1 hA
 rw [hm] at hM
 clear hsz hstar
 have hF0:=afind_pure c s hsc.few hsc.ents (by omega)
 obtain ⟨d1,hd1⟩:∃ d,blockC c m=d:=⟨_,rfl⟩
 obtain ⟨d2,hd2⟩:∃ d,extraC c m=d:=⟨_,rfl⟩
 have hs1:=hsc.block m hbl
 have hs2:=hsc.extra m hxl
 have hF1:=afind_pure (blockC c m) s hs1.few hs1.ents (by omega)
 have hF2:=afind_pure (extraC c m) s hs2.few hs2.ents (by omega)
 have p1:=fun x (hx:x ∈ findA c s)=>block_in (m:=m) hx
 have p2:=block_len c m s
 have p3:=extra_in c m s fun _=>hst1
 have p4:=extra_len c m s fun _=>hst1
 have q1:=findA_len c s
 have q2:=findA_len (extraC c m) s
 have q3:(extraC c m).modules.length=c.modules.length:=rfl
 have hml:=hsc.mods
 have md:d1.modules=c.modules∧d1.blocked=c.blocked++[m]∧d1.off=c.off∧d1.keep=c.keep∧d1.extra=c.extra:=by rw [← hd1];exact ⟨rfl,rfl,rfl,rfl,rfl⟩
 have me:d2.modules=c.modules∧d2.blocked=c.blocked∧d2.off=c.off∧d2.keep=c.keep∧d2.extra=c.extra++[⟨⟨#[42]⟩,m⟩]:=by rw [← hd2];exact ⟨rfl,rfl,rfl,rfl,rfl⟩
 rw [hd1] at hF1 p1 p2
 rw [hd2] at hF2 p3 p4 q2 q3
 obtain ⟨F0,hF00⟩:∃ F,findA c s=F:=⟨_,rfl⟩
 obtain ⟨F1,hF11⟩:∃ F,findA d1 s=F:=⟨_,rfl⟩
 obtain ⟨F2,hF22⟩:∃ F,findA d2 s=F:=⟨_,rfl⟩
 rw [hF00] at hF0 p1 p2 p4 q1
 rw [hF11] at hF1 p1 p2
 rw [hF22] at hF2 p3 p4 q2
 repeat' (first |  ((refine plc [0] (hA) ?_ ?_;push_cast [iO,tN];rintro r os ⟨rfl,rfl⟩;push_cast [iO,tN]))|((refine plc [0] (hM) ?_ ?_;push_cast [iO,tN];rintro r os ⟨rfl,rfl⟩;push_cast [iO,tN]))|((refine plc [] (hF0) ?_ ?_;push_cast [iO,tN];rintro r os ⟨rfl,rfl⟩;push_cast [iO,tN]))  | ((first|refine pC ?_|refine pQC ?_|refine pU ?_);push_cast [iO,tN])|(refine pif (fun h=>?_) (fun h=>?_)<;>first|exact pN h|push_cast [iO,tN]))
 have e1:(c.blocked.map strD++[strD m]).take (c.blocked.length+1)=(c.blocked++[m]).map strD:=by rw [List.map_append];exact List.take_of_length_le (by simp)
 simp only [strD] at e1
 obtain ⟨md1,md2,md3,md4,md5⟩:=md
 obtain ⟨me1,me2,me3,me4,me5⟩:=me
 refine pwp_weak (weak_frz 3 (by omega)) ?_
 push_cast [iO,tN,e1]
 refine pwp_weak (s':=⟨[(10,.c (.v (.int .i64 ((0:Int))))),(9,.c (.v (.bool false))),(8,.c (.ptr 2 0)),(7,.c (.sl 1 (F0.map strD))),(6,.c (.v (.string m))),(5,.c (.v (.string s))),(4,.c (.ptr 1 0)),(2,.c (.v (.bool false)))],[.box 26 [.sl 1 (L.map fun x=>[D.v (.int .i64 x)]),.v (.int .i64 ((k1:Int)+1+1))],.box 31 c.e,.box 31 d1.e]⟩) (by (refine weak_fg ?_;push_cast [iO,tN,md1,md2,md3,md4,md5,strD])) ?_
 push_cast [iO,tN]
 have hbe:byJ c m s c.extra.length=byX c m s:=by unfold byJ byX;rw [List.take_length]
 (apply pwp_loop3 (α:=Nat) 16 [41,71,89] (fun j=>[(10,.c (.v (.int .i64 j))),(9,.c (.v (.bool (byJ c m s j))))]) (fun j=>[]) (fun j=>j≤c.extra.length) (fun j=>c.extra.length - j) (0);(focus ((try push_cast [iO,tN]);rfl));(focus exact (by omega));(focus ((refine weak_fg ?_;try push_cast [iO,tN]);(try (rfl)))))
 intro j hj
 push_cast [iO,tN]
 by_cases hjt:j < c.extra.length
 ·have hnx:=byJ_next c m s hjt
  have hxp:=hsc.pat (c.extra.getD j default) (by rw [getD_lt _ hjt];exact List.getElem_mem _)
  obtain ⟨x,hx⟩:∃ x,c.extra.getD j default=x:=⟨_,rfl⟩
  rw [hx] at hnx hxp
  have hmt:=match_pure x.name s (by omega) (by omega)
  obtain ⟨b,hb⟩:∃ b,matchM x.name s=b:=⟨_,rfl⟩
  rw [hb] at hnx hmt
  cases hby:byJ c m s j with
  | true =>
   rw [hby,Bool.true_or] at hnx
   repeat' (first|((refine plc [] (hmt) ?_ ?_;push_cast [iO,tN,hx];rintro r os ⟨rfl,rfl⟩;push_cast [iO,tN,hx]))|((first|refine pC ?_|refine pQC ?_|refine pU ?_);push_cast [iO,tN,hx])|(refine pif (fun h=>?_) (fun h=>?_)<;>first|exact pN h|push_cast [iO,tN,hx]))
   exact ⟨j+1,by omega,by (refine weak_fg ?_;push_cast [iO,tN,hnx]),by omega⟩
  | false =>
   by_cases hv:x.value=m
   ·rw [hby,Bool.false_or,decide_eq_true hv,Bool.true_and] at hnx
    repeat' (first|((refine plc [] (hmt) ?_ ?_;push_cast [iO,tN,hx,hv];rintro r os ⟨rfl,rfl⟩;push_cast [iO,tN,hx,hv]))|((first|refine pC ?_|refine pQC ?_|refine pU ?_);push_cast [iO,tN,hx,hv])|(refine pif (fun h=>?_) (fun h=>?_)<;>first|exact pN h|push_cast [iO,tN,hx,hv]))
    exact ⟨j+1,by omega,by (refine weak_fg ?_;push_cast [iO,tN,hnx]),by omega⟩
   ·rw [hby,Bool.false_or,decide_eq_false hv,Bool.false_and] at hnx
    repeat' (first|((refine plc [] (hmt) ?_ ?_;push_cast [iO,tN,hx,hv];rintro r os ⟨rfl,rfl⟩;push_cast [iO,tN,hx,hv]))|((first|refine pC ?_|refine pQC ?_|refine pU ?_);push_cast [iO,tN,hx,hv])|(refine pif (fun h=>?_) (fun h=>?_)<;>first|exact pN h|push_cast [iO,tN,hx,hv]))
    exact ⟨j+1,by omega,by (refine weak_fg ?_;push_cast [iO,tN,hnx]),by omega⟩
 ·have hjl:j=c.extra.length:=by omega
  rw [hjl,hbe]
  obtain ⟨b,hb⟩:∃ b,byX c m s=b:=⟨_,rfl⟩
  rw [hb] at p1 ⊢
  repeat' (first |  ((refine plc [] (hF1) ?_ ?_;push_cast [iO,tN];rintro r os ⟨rfl,rfl⟩;push_cast [iO,tN]))  | ((first|refine pC ?_|refine pQC ?_|refine pU ?_);push_cast [iO,tN])|(refine pif (fun h=>?_) (fun h=>?_)<;>first|exact pN h|push_cast [iO,tN]))
  (apply pwp_loop3 (α:=Nat) 16 [41,71,89] (fun i=>[(12,.c (.v (.int .i64 i)))]) (fun i=>[]) (fun i=>i≤F0.length) (fun i=>F0.length - i) (0);(focus ((try push_cast [iO,tN]);rfl));(focus exact (by omega));(focus ((refine weak_fg ?_;try push_cast [iO,tN]))))
  intro i hi
  push_cast [iO,tN]
  by_cases hit:i < F0.length
  ·have hpx:=p1 (F0.getD i default) (by rw [getD_lt F0 hit];exact List.getElem_mem _)
   obtain ⟨x,hx⟩:∃ x,F0.getD i default=x:=⟨_,rfl⟩
   rw [hx] at hpx
   have hin:=in_pure F1 x (by omega)
   rw [hpx] at hin
   by_cases hxm:x=m
   ·rw [decide_eq_false (by simp [hxm]),Bool.false_or] at hin
    cases b
    all_goals
     repeat' (first|((refine ql_call2 false rfl rfl (by kernel_rfl) (hin) (fun r os h=>h.1) rfl ?_ ?_;push_cast [iO,tN,hx,hxm,ne_eq,not_true_eq_false];refine ql_of_qops ?_;push_cast [iO,tN,hx,hxm,ne_eq,not_true_eq_false]))|((first|refine pC ?_|refine pQC ?_|refine pU ?_);push_cast [iO,tN,hx,hxm,ne_eq,not_true_eq_false])|(refine pif (fun h=>?_) (fun h=>?_)<;>first|exact pN h|push_cast [iO,tN,hx,hxm,ne_eq,not_true_eq_false]))
     exact ⟨i+1,by omega,by (refine weak_fg ?_;push_cast [iO,tN]),by omega⟩
   ·rw [decide_eq_true hxm,Bool.true_or] at hin
    repeat' (first|((refine ql_call2 false rfl rfl (by kernel_rfl) (hin) (fun r os h=>h.1) rfl ?_ ?_;push_cast [iO,tN,hx,hxm,ne_eq,not_false_eq_true];refine ql_of_qops ?_;push_cast [iO,tN,hx,hxm,ne_eq,not_false_eq_true]))|((first|refine pC ?_|refine pQC ?_|refine pU ?_);push_cast [iO,tN,hx,hxm,ne_eq,not_false_eq_true])|(refine pif (fun h=>?_) (fun h=>?_)<;>first|exact pN h|push_cast [iO,tN,hx,hxm,ne_eq,not_false_eq_true]))
    exact ⟨i+1,by omega,by (refine weak_fg ?_;push_cast [iO,tN]),by omega⟩
  ·have hmod:=module_pure c.modules m (by omega)
   have e2:(c.extra.map Ext2.d++[[D.v (.string ⟨#[42]⟩),D.v (.string m)]]).take (c.extra.length+1)=c.extra.map Ext2.d++[[D.v (.string ⟨#[42]⟩),D.v (.string m)]]:=List.take_of_length_le (by simp)
   simp only [Cfg.e,Cfg.d,List.map_cons,List.map_nil,D.e,me1,me2,me3,me4,me5,List.map_append,Ext2.d] at hF2
   have p2':(F1.length:Int)≤(F0.length:Int):=by omega
   have p4':(F2.length:Int)≤(F0.length:Int)+1:=by omega
   have hin2:=in_pure F2 m (by omega)
   rw [p3] at hin2
   obtain ⟨mo,hmo⟩:∃ mo,(modOf c.modules m).getD noMod=mo:=⟨_,rfl⟩
   rw [hmo] at hmod
   cases hw:(modOf c.modules m).isSome with
   | false =>
    rw [hw,Bool.false_and] at hin2
    rw [hw] at hmod
    repeat' (first|((refine plc [] (hmod) ?_ ?_;push_cast [iO,tN,p2',p4'];rintro r os ⟨rfl,rfl⟩;push_cast [iO,tN,p2',p4']))|(refine pl_weak (weak_frz 4 (by omega)) ?_;push_cast [iO,tN,e2];(refine plc [] (hF2) ?_ ?_;push_cast [iO,tN,p2',p4'];rintro r os ⟨rfl,rfl⟩;push_cast [iO,tN,p2',p4']))|((refine plc [] (hin2) ?_ ?_;push_cast [iO,tN,p2',p4'];rintro r os ⟨rfl,rfl⟩;push_cast [iO,tN,p2',p4']))|((refine plc [] (known18_pure) ?_ ?_;push_cast [iO,tN,p2',p4'];rintro r os ⟨rfl,rfl⟩;push_cast [iO,tN,p2',p4']))|((first|refine pC ?_|refine pQC ?_|refine pU ?_);push_cast [iO,tN,p2',p4'])|(refine pif (fun h=>?_) (fun h=>?_)<;>first|exact pN h|push_cast [iO,tN,p2',p4']))
    (refine retK_of [] ?_;push_cast [iO,tN])
   | true =>
    rw [hw,Bool.true_and] at hin2
    rw [hw] at hmod
    by_cases hs0:s=⟨#[]⟩
    ·rw [decide_eq_false (by simp [hs0])] at hin2
     repeat' (first|((refine plc [] (hmod) ?_ ?_;push_cast [iO,tN,p2',p4',hs0,ne_eq,not_true_eq_false];rintro r os ⟨rfl,rfl⟩;push_cast [iO,tN,p2',p4',hs0,ne_eq,not_true_eq_false]))|(refine pl_weak (weak_frz 4 (by omega)) ?_;push_cast [iO,tN,e2];(refine plc [] (hF2) ?_ ?_;push_cast [iO,tN,p2',p4',hs0,ne_eq,not_true_eq_false];rintro r os ⟨rfl,rfl⟩;push_cast [iO,tN,p2',p4',hs0,ne_eq,not_true_eq_false]))|((refine plc [] (hin2) ?_ ?_;push_cast [iO,tN,p2',p4',hs0,ne_eq,not_true_eq_false];rintro r os ⟨rfl,rfl⟩;push_cast [iO,tN,p2',p4',hs0,ne_eq,not_true_eq_false]))|((refine plc [] (known18_pure) ?_ ?_;push_cast [iO,tN,p2',p4',hs0,ne_eq,not_true_eq_false];rintro r os ⟨rfl,rfl⟩;push_cast [iO,tN,p2',p4',hs0,ne_eq,not_true_eq_false]))|((first|refine pC ?_|refine pQC ?_|refine pU ?_);push_cast [iO,tN,p2',p4',hs0,ne_eq,not_true_eq_false])|(refine pif (fun h=>?_) (fun h=>?_)<;>first|exact pN h|push_cast [iO,tN,p2',p4',hs0,ne_eq,not_true_eq_false]))
     (refine retK_of [] ?_;push_cast [iO,tN])
    ·rw [decide_eq_true hs0] at hin2
     repeat' (first|((refine plc [] (hmod) ?_ ?_;push_cast [iO,tN,p2',p4',hs0,ne_eq,not_false_eq_true];rintro r os ⟨rfl,rfl⟩;push_cast [iO,tN,p2',p4',hs0,ne_eq,not_false_eq_true]))|(refine pl_weak (weak_frz 4 (by omega)) ?_;push_cast [iO,tN,e2];(refine plc [] (hF2) ?_ ?_;push_cast [iO,tN,p2',p4',hs0,ne_eq,not_false_eq_true];rintro r os ⟨rfl,rfl⟩;push_cast [iO,tN,p2',p4',hs0,ne_eq,not_false_eq_true]))|((refine plc [] (hin2) ?_ ?_;push_cast [iO,tN,p2',p4',hs0,ne_eq,not_false_eq_true];rintro r os ⟨rfl,rfl⟩;push_cast [iO,tN,p2',p4',hs0,ne_eq,not_false_eq_true]))|((refine plc [] (known18_pure) ?_ ?_;push_cast [iO,tN,p2',p4',hs0,ne_eq,not_false_eq_true];rintro r os ⟨rfl,rfl⟩;push_cast [iO,tN,p2',p4',hs0,ne_eq,not_false_eq_true]))|((first|refine pC ?_|refine pQC ?_|refine pU ?_);push_cast [iO,tN,p2',p4',hs0,ne_eq,not_false_eq_true])|(refine pif (fun h=>?_) (fun h=>?_)<;>first|exact pN h|push_cast [iO,tN,p2',p4',hs0,ne_eq,not_false_eq_true]))
     (refine retK_of [] ?_;push_cast [iO,tN])
end Go.Proofs.Ythhfpcbpiphfiaa
namespace Go.Proofs.Ythhfpcbpiphfiaa
open Go.ChangeShapes Go.WideShapes Go.ChangeAt Go.RowKit
open Go.ChangeMaps (open_string shut_string)
set_option linter.unusedVariables false
set_option linter.unusedSimpArgs false
theorem int_bd {n:Int} (h:(Lit.int .i64 n).wf=true) : -9223372036854775808≤n∧n≤9223372036854775807:=by
 simpa [Lit.wf,IntKind.min,IntKind.max,IntKind.signed,IntKind.bits] using h
theorem trod_rows {H:Type} {enc:TypeId × Value → H} {P:Program} {W:World} {t e:TypeId} {size fuel:Nat} {A:Option Addr} {n c:Nat} {x:DataW H × List MemPlace}
  (ht:P.underlying t=some (.slice e)) (hC:P.cellsOf e=size) (hp:0 < size) (h:DataW.trod enc P W 0 (fun _=>true) true fuel t [.slice A n c]=some x) :
  ∃ F:Nat → List Value,n≤c∧c≤maxLen∧(∀ i,i < n → (F i).length=size∧∃ m y,DataW.trod enc P W 0 (fun _=>true) true m e (F i)=some y) ∧
   Rd W (fun _=>True) size A n ((List.range n).flatMap F):=by
 rcases Go.Deep.open_slice ht h with ⟨hcs,_⟩|⟨a,len,cap,m,fu,D,Pl,hcs,_,hl,hm,hmm,_,hi⟩
 ·simp at hcs
  obtain ⟨rfl,rfl,rfl⟩:=hcs
  exact ⟨fun _=>[],Nat.le_refl _,by simp [maxLen],fun i hi=>absurd hi (by omega),by simpa using Rd.nil⟩
 ·simp at hcs
  obtain ⟨rfl,rfl,rfl⟩:=hcs
  simp only [if_true] at hmm
  subst hmm
  obtain ⟨F,hF⟩:=Go.Deep.choose_lt (n:=n) (p:=fun i (cs':List Value)=>W.cells? 0 (a.add (i * P.cellsOf e)) (P.cellsOf e)=some cs'∧DataW.trod enc P W 0 (fun _=>true) true fu e cs'=some (D i,Pl i))
   (fun i h=>hi i (by omega))
  have hlen:∀ i,i < n → (F i).length=size:=fun i h=>by
   have:=(World.cells?_some (hF i h).1).2.1
   rw [this,hC]
  have hflat:∀ k,k≤n → ((List.range k).flatMap F).length=k * size:=by
   intro k
   induction k with
   | zero=>intro _;simp
   | succ k ih =>
    intro hk
    rw [List.range_succ,List.flatMap_append,List.length_append,ih (by omega)]
    simp [hlen k (by omega),Nat.add_mul]
  refine ⟨F,hl,hm,fun i h=>⟨hlen i h,fu,_,(hF i h).2⟩,hflat n (Nat.le_refl _),fun hn=>?_⟩
  have hcell:∀ i,i < n → ∀ j,j < size → W.cell? ((a.add (i * size)).add j)=(F i)[j]?:=fun i h j hj=>by
   have h1:=(World.cells?_some (hF i h).1).2.2 j (by rw [hC];exact hj)
   rw [hC] at h1
   exact h1
  have hget:∀ k,k≤n → ∀ j,((List.range k).flatMap F)[j]? = if j < k * size then (F (j / size))[j % size]? else none:=by
   intro k
   induction k with
   | zero=>intro _ j;simp
   | succ k ih =>
    intro hk j
    rw [List.range_succ,List.flatMap_append]
    by_cases hj:j < k * size
    ·rw [List.getElem?_append_left (by rw [hflat k (by omega)];exact hj),ih (by omega),if_pos hj,if_pos (by rw [Nat.add_mul];omega)]
    ·rw [List.getElem?_append_right (by rw [hflat k (by omega)];omega),hflat k (by omega)]
     simp only [List.flatMap_cons,List.flatMap_nil,List.append_nil]
     by_cases hj2:j < (k+1) * size
     ·have hj3:j - k * size < size:=by rw [Nat.add_mul] at hj2;omega
      have e1:j / size=k:=by
       rw [show j=(j - k * size)+k * size by omega,Nat.add_mul_div_right _ _ hp,Nat.div_eq_of_lt hj3];omega
      have e2:j % size=j - k * size:=by
       conv=>lhs;rw [show j=(j - k * size)+k * size by omega]
       rw [Nat.add_mul_mod_self_right,Nat.mod_eq_of_lt hj3]
      rw [if_pos hj2,e1,e2]
     ·rw [if_neg hj2,List.getElem?_eq_none (by rw [hlen k (by omega)];rw [Nat.add_mul] at hj2;omega)]
  obtain ⟨b,off,spot⟩:=a
  have h0:=hcell 0 (by omega) 0 hp
  have hs:spot=none:=by
   have hx:(F 0)[0]? = some ((F 0)[0]'(by rw [hlen 0 (by omega)];exact hp)):=List.getElem?_eq_getElem _
   rw [hx] at h0
   simpa [Addr.add] using World.cell?_spot h0
  subst hs
  have h0b:b < W.heap.size:=by
   have hx:(F 0)[0]? = some ((F 0)[0]'(by rw [hlen 0 (by omega)];exact hp)):=List.getElem?_eq_getElem _
   rw [hx] at h0
   have:=World.block_lt_of_cell? _ _ h0
   simpa [Addr.add_lit] using this
  refine ⟨b,off,rfl,trivial,h0b,fun j u hu=>?_⟩
  rw [hget n (Nat.le_refl _)] at hu
  split at hu
  ·rename_i hj
   have hq:j / size < n:=Nat.div_lt_of_lt_mul (by rw [Nat.mul_comm];exact hj)
   have h1:=hcell (j / size) hq (j % size) (Nat.mod_lt _ hp)
   rw [Addr.add_lit,Addr.add_lit,Nat.add_assoc,Nat.mul_comm,Nat.div_add_mod] at h1
   rw [h1,hu]
  ·cases hu
end Go.Proofs.Ythhfpcbpiphfiaa
namespace Go.Proofs.Ythhfpcbpiphfiaa
open Go.ChangeShapes Go.WideShapes Go.ChangeAt Go.RowKit
set_option linter.unusedVariables false
set_option linter.unusedSimpArgs false
inductive Sh where
 | int (k:IntKind)
 | str
 | bool
 | sl (els:List Sh)
mutual
def TD:Sh → D → Prop
 | .int k,d=>∃ n,d = .v (.int k n)∧(Lit.int k n).wf=true
 | .str,d=>∃ s:ByteArray,d = .v (.string s)∧s.size≤maxLen
 | .bool,d=>∃ b,d = .v (.bool b)
 | .sl ss,d=>∃ rows,d = .sl ss.length rows∧rows.length≤maxLen∧∀ r ∈ rows,TR ss r
def TR:List Sh → List D → Prop
 | [],r=>r=[]
 | s :: ss,r=>∃ d r',r=d :: r'∧TD s d∧TR ss r'
end
theorem TR.append:∀ {a b:List Sh} {x y:List D},TR a x → TR b y → TR (a++b) (x++y)
 | [],b,x,y,h1,h2=>by rw [TR] at h1;subst h1;exact h2
 | s :: a,b,x,y,h1,h2=>by
  rw [TR] at h1
  obtain ⟨d,r',rfl,h3,h4⟩:=h1
  show TR (s :: (a++b)) (d :: (r'++y))
  rw [TR]
  exact ⟨d,r'++y,rfl,h3,h4.append h2⟩
theorem TR.len:∀ {a:List Sh} {x:List D},TR a x → x.length=a.length
 | [],x,h=>by rw [TR] at h;subst h;rfl
 | s :: a,x,h=>by
  rw [TR] at h
  obtain ⟨d,r',rfl,h3,h4⟩:=h
  simp [h4.len]
mutual
def shOf (P:Program):Nat → TypeId → Option (List Sh)
 | 0,_=>none
 | n+1,t=>match P.underlying t with
  | some (.int k)=>some [.int k]
  | some .string=>some [.str]
  | some .bool=>some [.bool]
  | some (.slice e)=>match shOf P n e with
   | some ss=>if 0 < ss.length∧P.cellsOf e=ss.length then some [.sl ss] else none
   | none=>none
  | some (.struct fs)=>match shFs P n fs.toList 0 with
   | some ss=>if P.cellsOf t=ss.length then some ss else none
   | none=>none
  | _=>none
def shFs (P:Program):Nat → List Field → Nat → Option (List Sh)
 | 0,_,_=>none
 | n+1,[],_=>some []
 | n+1,f :: fs,o=>match shOf P n f.type,shFs P n fs (o+P.cellsOf f.type) with
  | some ss,some rest=>if f.offset=o∧P.cellsOf f.type=ss.length then some (ss++rest) else none
  | _,_=>none
end
section
variable {H:Type} {enc:TypeId × Value → H} {P:Program} {W:World}
def Here (W:World) (b:Nat):Prop:=b < W.heap.size
theorem rd_here {sz n:Nat} {A:Option Addr} {xs:List Value} (h:Rd W (fun _=>True) sz A n xs):Rd W (Here W) sz A n xs :=
 ⟨h.1,fun hn=>by obtain ⟨b,o,h1,_,h2,h3⟩:=h.2 hn;exact ⟨b,o,h1,h2,h2,h3⟩⟩
mutual
theorem sh_ok:∀ (n:Nat) (t:TypeId) (ss:List Sh) (cs:List Value) (fuel:Nat) (y:DataW H × List MemPlace),shOf P n t=some ss → DataW.trod enc P W 0 (fun _=>true) true fuel t cs=some y →
  ∃ ds,TR ss ds∧All2 (RD W (Here W)) ds cs
 | 0,t,ss,cs,fuel,y,h,_=>by simp [shOf] at h
 | n+1,t,ss,cs,fuel,y,h,ht=>by
  rw [shOf] at h
  split at h
  ·rename_i k hu
   cases h
   obtain ⟨m,rfl,_,hw⟩:=DataW.trod_int hu ht
   refine ⟨[.v (.int k m)],?_,?_⟩
   ·rw [TR];exact ⟨_,_,rfl,by rw [TD];exact ⟨m,rfl,hw⟩,by rw [TR]⟩
   ·exact ⟨by rw [RD];exact ⟨rfl,rfl⟩,trivial⟩
  ·rename_i hu
   cases h
   obtain ⟨s,rfl,_,hs⟩:=DataW.trod_string hu ht
   refine ⟨[.v (.string s)],?_,?_⟩
   ·rw [TR];exact ⟨_,_,rfl,by rw [TD];exact ⟨s,rfl,hs⟩,by rw [TR]⟩
   ·exact ⟨by rw [RD];exact ⟨rfl,rfl⟩,trivial⟩
  ·rename_i hu
   cases h
   obtain ⟨b,rfl,_⟩:=DataW.trod_bool hu ht
   refine ⟨[.v (.bool b)],?_,?_⟩
   ·rw [TR];exact ⟨_,_,rfl,by rw [TD];exact ⟨b,rfl⟩,by rw [TR]⟩
   ·exact ⟨by rw [RD];exact ⟨rfl,rfl⟩,trivial⟩
  ·rename_i e hu
   split at h
   ·rename_i es he
    split at h
    ·rename_i hc
     cases h
     have hcs:∃ A len c,cs=[.slice A len c]:=by
      rcases Go.Deep.open_slice hu ht with ⟨h1,_⟩|⟨a,len,cap,m,fu,D,Pl,h1,_⟩
      ·exact ⟨_,_,_,h1⟩
      ·exact ⟨_,_,_,h1⟩
     obtain ⟨A,len,c,rfl⟩:=hcs
     obtain ⟨F,h1,h2,h3,h4⟩:=trod_rows hu hc.2 hc.1 ht
     have hall:∀ i,i < len → ∃ ds,TR es ds∧All2 (RD W (Here W)) ds (F i):=fun i hi=>by
      obtain ⟨_,m,y',hy⟩:=h3 i hi
      exact sh_ok n e es (F i) m y' he hy
     obtain ⟨G,hG⟩:=Go.Deep.choose_lt (n:=len) (p:=fun i ds=>TR es ds∧All2 (RD W (Here W)) ds (F i)) hall
     have hrows:∀ k,k≤len → All2 (RD W (Here W)) ((List.range k).map G).flatten ((List.range k).flatMap F):=by
      intro k
      induction k with
      | zero=>intro _;trivial
      | succ k ih =>
       intro hk
       rw [List.range_succ,List.map_append,List.flatten_append,List.flatMap_append]
       exact (ih (by omega)).append (by simpa using (hG k (by omega)).2)
     have hlen:((List.range len).map G).length=len:=by simp
     refine ⟨[.sl es.length ((List.range len).map G)],?_,?_⟩
     ·rw [TR]
      refine ⟨_,_,rfl,?_,by rw [TR]⟩
      rw [TD]
      refine ⟨_,rfl,by rw [hlen];exact Nat.le_trans h1 h2,fun r hr=>?_⟩
      obtain ⟨i,hi,rfl⟩:=List.mem_map.1 hr
      exact (hG i (List.mem_range.1 hi)).1
     ·refine ⟨?_,trivial⟩
      rw [rd_sl]
      refine ⟨A,c,_,by rw [hlen],by rw [hlen];exact h1,by rw [hlen];exact rd_here h4,?_⟩
      refine ⟨fun r hr=>?_,hrows len (Nat.le_refl _)⟩
      obtain ⟨i,hi,rfl⟩:=List.mem_map.1 hr
      exact (hG i (List.mem_range.1 hi)).1.len
    ·cases h
   ·cases h
  ·rename_i fs hu
   split at h
   ·rename_i ss' hfs
    split at h
    ·rename_i hc
     cases h
     obtain ⟨xs,m,_,_,hl,hlen,hf⟩:=DataW.trod_struct hu ht
     obtain ⟨ds,h1,h2⟩:=shFs_ok n fs.toList 0 ss cs hfs (by omega) (fun i f hi=>by
      have h1:=hf i f (by simpa using hi)
      have hi2:i < xs.length:=by
       have:=(List.getElem?_eq_some_iff.1 hi).1
       simp at this
       omega
      rw [List.getElem?_eq_getElem hi2] at h1
      exact ⟨_,_,h1⟩)
     refine ⟨ds,h1,?_⟩
     rw [List.drop_zero,List.take_of_length_le (by omega)] at h2
     exact h2
    ·cases h
   ·cases h
  ·cases h
theorem shFs_ok:∀ (n:Nat) (fs:List Field) (o:Nat) (ss:List Sh) (cs:List Value),shFs P n fs o=some ss → o+ss.length≤cs.length →
  (∀ (i:Nat) (f:Field),fs[i]? = some f → ∃ m y,DataW.trod enc P W 0 (fun _=>true) true m f.type ((cs.drop f.offset).take (P.cellsOf f.type))=some y) →
  ∃ ds,TR ss ds∧All2 (RD W (Here W)) ds ((cs.drop o).take ss.length)
 | 0,fs,o,ss,cs,h,_,_=>by simp [shFs] at h
 | n+1,[],o,ss,cs,h,_,_=>by
  rw [shFs] at h
  cases h
  exact ⟨[],by rw [TR],by simp [All2]⟩
 | n+1,f :: fs,o,ss,cs,h,hle,hf=>by
  rw [shFs] at h
  split at h
  ·rename_i s1 s2 h1 h2
   split at h
   ·rename_i hc
    cases h
    rw [List.length_append] at hle
    obtain ⟨m,y,hy⟩:=hf 0 f rfl
    rw [hc.1,hc.2] at hy
    obtain ⟨d1,t1,a1⟩:=sh_ok n f.type s1 _ m y h1 hy
    obtain ⟨d2,t2,a2⟩:=shFs_ok n fs (o+P.cellsOf f.type) s2 cs h2 (by omega) (fun i g hi=>hf (i+1) g (by simpa using hi))
    refine ⟨d1++d2,t1.append t2,?_⟩
    rw [List.length_append,List.take_add,List.drop_drop,← hc.2]
    have:=a1.append (by simpa using a2)
    rw [hc.2] at this ⊢
    exact this
   ·cases h
  ·cases h
end
end
def G0 (W:World):G:=⟨0,fun _=>0,fun _=>0,Here W⟩
theorem mem0 {W:World} (hp:Pin W) (hb:∀ b,PinB b → b < W.heap.size):MemOk (G0 W) [] W :=
 ⟨rfl,fun k o h=>by simp at h,fun k k' h=>absurd h (by simp [G0]),fun k h=>absurd h (by simp [G0]),fun b h=>h,hp,hb⟩
theorem calls_of_pure {P:Program} {g:FuncId} {args:List PV} {vs:Array Value} {W:World} {v:Value} (h:PCalls P g args [] fun r os=>r = .c (.v v)∧os=[]) (hp:Pin W) (hb:∀ b,PinB b → b < W.heap.size)
  (hx:All2 (RP W (G0 W)) args vs.toList):Calls P g vs W fun e W'=>e = .returned v∧Ext No W W':=by
 have:=h (G0 W) W vs.toList (mem0 hp hb) hx
 rw [Array.toArray_toList] at this
 refine this.mono ?_
 rintro e w' ⟨r,os',Γ',y,rfl,⟨rfl,_⟩,hr,_,_,hg⟩
 have h1:y=v:=hr.1
 subst h1
 exact ⟨rfl,hg.ext.mono fun b ⟨k,hk,_⟩=>absurd hk (by simp [G0])⟩
section
variable {H:Type} {enc:TypeId × Value → H} {P:Program} {W:World}
theorem open_sl {base:Nat} {t e:TypeId} {v:Value} {d:DataW H} {ps:List MemPlace} (n:Nat) (ss:List Sh) (ht:P.underlying t=some (.slice e)) (hs:shOf P n t=some [.sl ss]) (hv:Value.okWide P W .any base t v) (h:DataW.Trod enc P W 0 (fun _=>true) true t v d ps) :
  ∃ rows,rows.length≤maxLen∧(∀ r ∈ rows,TR ss r)∧RP W (G0 W) (.c (.sl ss.length rows)) v:=by
 obtain ⟨A,len,c,rfl⟩:=okWide_slice ht hv
 obtain ⟨fuel,hf⟩:=h
 obtain ⟨ds,h1,h2⟩:=sh_ok n t [.sl ss] [.slice A len c] fuel _ hs (by simpa [Value.cells] using hf)
 rw [TR] at h1
 obtain ⟨d',r',rfl,h3,h4⟩:=h1
 rw [TR] at h4
 subst h4
 rw [TD] at h3
 obtain ⟨rows,rfl,h5,h6⟩:=h3
 exact ⟨rows,h5,h6,h2.1⟩
end
theorem ints_of {rows:List (List D)} (h:∀ r ∈ rows,TR [.int .i64] r):∃ L:List Int,rows=L.map (fun x=>[D.v (.int .i64 x)])∧∀ x ∈ L,-9223372036854775808≤x∧x≤9223372036854775807:=by
 induction rows with
 | nil=>exact ⟨[],rfl,by simp⟩
 | cons r rows ih =>
  obtain ⟨L,rfl,h2⟩:=ih fun r' hr'=>h r' (by simp [hr'])
  have h1:=h r (by simp)
  simp only [TR,TD] at h1
  obtain ⟨_,_,rfl,⟨n,rfl,hn⟩,rfl⟩:=h1
  refine ⟨n :: L,rfl,fun x hx=>?_⟩
  rcases List.mem_cons.1 hx with rfl|hx
  ·exact int_bd hn
  ·exact h2 x hx
theorem sh_ints:shOf Try.prog 30 22=some [.sl [.int .i64]]:=by kernel_rfl
theorem pin_start (W:World):Pin W∧∀ b,PinB b → b < W.heap.size:=⟨trivial,fun _ h=>h.elim⟩
end Go.Proofs.Ythhfpcbpiphfiaa
