/- What the program computes, and the plain laws of it, part 18. -/
import Derived.WideKeyEntry
import Derived.Lib.IndexAny
import Derived.Test.YthhfpcbpiphfiaaR15
import Derived.Test.YthhfpcbpiphfiaaR17
namespace Go.Proofs.Ythhfpcbpiphfiaa
attribute [local irreducible] PL QL PWPr PCalls Weak RetK Kontr PA
open Go.RowKit
open IntWalk renaming iteOmega → iO, toNatUp → tN
set_option linter.unusedVariables false
set_option linter.unusedSimpArgs false
set_option maxRecDepth 20000
def boolD (b:Bool):D:=.v (.bool b)
def El.d (e:El):List D:=.v (.int .u8 (e.lit:Int)) :: .v (.bool e.star) :: e.set.map boolD
theorem boolD_e (l:List Bool):(l.map boolD).map D.e=l.map boolE:=by rw [List.map_map];rfl
def altsD (l:List (List El)):List (List D):=l.map fun a=>[D.sl 129 (a.map El.d)]
theorem toDs_bools (l:List Bool):toDs (l.map fun x=>E.v (.bool x))=some (l.map boolD):=by
 induction l with
 | nil=>rfl
 | cons b l ih=>simp only [List.map_cons,toDs,toD,ih];rfl
abbrev outB (l0:List (List El)) (x:E) (m:Nat):Ob:=.box 72 (nestE 129 El.d l0 x m)
abbrev innB (cur:List El):Ob:=.arr 92 129 (cur.map El.d)
theorem zer_el:zerOf Try.prog 92=some (.v (.int .u8 0) :: .v (.bool false) :: List.replicate 127 (.v (.bool false))):=by kernel_rfl
attribute [push_cast] zer_el toDs_bools
theorem altGo_none {p:ByteArray} {i:Nat} {l:List (List El)} {x:List El} (h:i < p.size) (hb:byt p i=91) (hn:bsetM p (i+1)=none):altGo p i l x=none:=by
 rw [altGo,dif_neg (by omega),if_neg (by rw [hb];decide),if_neg (by rw [hb];decide),if_neg (by rw [hb];decide),if_pos hb]
 split
 ·rfl
 ·rename_i r hr;rw [hn] at hr;cases hr
theorem altGo_some {p:ByteArray} {i:Nat} {l:List (List El)} {x:List El} {q:List Bool × Nat} (h:i < p.size) (hb:byt p i=91) (hn:bsetM p (i+1)=some q):altGo p i l x=altGo p q.2 l (x++[⟨0,false,q.1⟩]):=by
 rw [altGo,dif_neg (by omega),if_neg (by rw [hb];decide),if_neg (by rw [hb];decide),if_neg (by rw [hb];decide),if_pos hb]
 split
 ·rename_i hr;rw [hn] at hr;cases hr
 ·rename_i r hr;rw [hn] at hr;cases hr;rfl
def SetOk (p:ByteArray):Prop:=∀ i,i≤p.size → PCalls Try.prog 69 [.c (.ptr 0 0)] [.box 86 (rdE p i)] fun r os =>
   match bsetM p i with
   | none=>r = .two (.agg (noneS.map boolE)) (.c (.v (.bool false)))∧∃ j:Nat,os=[.box 86 (rdE p j)]
   | some q=>r = .two (.agg (q.1.map boolE)) (.c (.v (.bool true)))∧os=[.box 86 (rdE p q.2)]
set_option maxRecDepth 20000 in
set_option maxHeartbeats 4000000 in
theorem alts_pure (p:ByteArray) (hp:p.size≤1000000) (hb:∀ k,byt p k≤126) (hset:SetOk p) :
  PCalls Try.prog 44 [.c (.ptr 0 0)] [.box 86 (rdE p 0)] fun r os =>
   (∃ i:Nat,os=[.box 86 (rdE p i)]) ∧
   match altsM p with
   | none=>r = .two (.c (.v (.slice none 0 0))) (.c (.v (.bool false)))
   | some l=>r = .two (.c (.sl 1 (altsD l))) (.c (.v (.bool true))):=by
 have he:=every_pure
 refine pcalls_of Try.func44 rfl (by simp [Try.ntmps44]) ?_
 rw [Try.ntmps44,Try.results44]
 push_cast [-List.reduceReplicate,iO,tN]
 have cB:CutB 9 [38]:=trivial
 refine pwp_seq fun K hK=>?_
 refine pwp_region ?_
 push_cast [-List.reduceReplicate,iO,tN]
 refine Kont.use (by assumption) ?_
 refine pwp_seq fun K hK=>?_
 refine pwp_regionL ?_
 refine pl_nest rfl rfl rfl rfl rfl (by push_cast [-List.reduceReplicate,iO,tN]) ?_
 push_cast [-List.reduceReplicate,iO,tN]
 refine pl_of_pops ?_
 push_cast [-List.reduceReplicate,iO,tN]
 refine Kont.use (by assumption) ?_
 refine pwp_weak (weak_adopt_box 1 0 92 129 (by decide) _ _ (by rfl) (by rfl)) ?_
 push_cast [-List.reduceReplicate,iO,tN,List.set_cons_zero]
 have e0:[E.own 2 0]=nestE 129 El.d [] (.own 2 0) 0:=nest_one _
 rw [e0]
 repeat' (first|((first|refine pC ?_|refine pQC ?_|refine pU ?_);push_cast [-List.reduceReplicate,iO,tN])|(refine pif (fun h=>?_) (fun h=>?_)<;>first|exact pN h|push_cast [-List.reduceReplicate,iO,tN]))
 (apply pwp_loop3 (α:=Nat × List (List El) × List El × Nat) 9 [38] (fun x=>[(4,.c (.own 1 (x.2.1.length+1)))]) (fun x=>[(0,.box 86 (rdE p x.1)),(1,outB x.2.1 (.own 2 x.2.2.1.length) x.2.2.2),(2,innB x.2.2.1)]) (fun x=>x.1≤p.size∧altsM p=altGo p x.1 x.2.1 x.2.2.1∧x.2.1.length+x.2.2.1.length≤x.1) (fun x=>p.size - x.1) ((0,[],[],0));(focus ((try push_cast [-List.reduceReplicate,iO,tN]);rfl));(focus exact ⟨Nat.zero_le _,rfl,Nat.le_refl _⟩);(focus ((refine weak_fg ?_;try push_cast [-List.reduceReplicate,iO,tN]))))
 rintro ⟨i,as',cur,m⟩ ⟨h1,h2,h3⟩
 simp only at h1 h2 h3 ⊢
 push_cast [-List.reduceReplicate,iO,tN]
 by_cases hlt:i < p.size
 case neg =>
  have hR:altsM p=some (as'++[cur]):=by rw [h2,altGo,dif_pos (by omega)]
  refine pwp_weak (weak_frz 2 (by omega)) ?_
  push_cast [-List.reduceReplicate,iO,tN]
  refine pwp_weak (weak_frzbox 4 (k:=1) (n:=as'.length+1) (ds:=(as'++[cur]).map fun a=>D.sl 129 (a.map El.d)) (by omega) (by rfl) (by rfl) (nest_toDs _ _ _) (by simp)) ?_
  push_cast [-List.reduceReplicate,iO,tN]
  repeat' (first|((first|refine pC ?_|refine pQC ?_|refine pU ?_);push_cast [-List.reduceReplicate,iO,tN])|(refine pif (fun h=>?_) (fun h=>?_)<;>first|exact pN h|push_cast [-List.reduceReplicate,iO,tN]))
  (refine retK_of [0] ?_;push_cast [-List.reduceReplicate,iO,tN,hR])
  exact ⟨_,_,leP_refl _,leOs_refl _,⟨i,rfl⟩,by simp [altsD]⟩
 obtain ⟨b,hbe⟩:∃ b,byt p i=b:=⟨_,rfl⟩
 have hb1:b.toNat≤126:=by rw [← hbe];exact UInt8.le_iff_toNat_le.1 (hb i)
 have hg:p.data.toList.getD i 0=b:=hbe
 by_cases h124:b=124
 case pos =>
  refine pwp_weak (weak_frz 2 (by omega)) ?_
  push_cast [-List.reduceReplicate,iO,tN]
  repeat' (first|(refine pl_appbox 1 rfl rfl (by push_cast [-List.reduceReplicate,iO,tN,hg,h124]) rfl rfl rfl rfl rfl (by push_cast [-List.reduceReplicate,iO,tN,hg,h124]) (by push_cast [-List.reduceReplicate,iO,tN,hg,h124]) (by omega) rfl (by omega) (by omega) ?_;intro m';push_cast [-List.reduceReplicate,iO,tN,hg,h124])|((first|refine pC ?_|refine pQC ?_|refine pU ?_);push_cast [-List.reduceReplicate,iO,tN,hg,h124])|(refine pif (fun h=>?_) (fun h=>?_)<;>first|exact pN h|push_cast [-List.reduceReplicate,iO,tN,hg,h124]))
  have hnl:as'.length+1≤(nestE 129 El.d as' (E.sl 129 (cur.map El.d)) m).length:=by rw [nest_len];omega
  refine pl_appbox 1 (by':=24) (z0:=.v (.slice none 0 0)) (d:=.v (.slice none 0 0)) rfl rfl (by push_cast [-List.reduceReplicate,iO,tN]) rfl (by kernel_rfl) (by kernel_rfl) rfl rfl hnl (by omega) (Nat.le_refl _) rfl (by omega) (by omega) ?_
  intro m'
  push_cast [-List.reduceReplicate,iO,tN]
  refine pl_of_pops ?_
  push_cast [-List.reduceReplicate,iO,tN]
  obtain ⟨as2,has2⟩:∃ as2,as'++[cur]=as2:=⟨_,rfl⟩
  have hal:as'.length+1=as2.length:=by rw [← has2];simp
  rw [has2]
  repeat' (first|((first|refine pC ?_|refine pQC ?_|refine pU ?_);push_cast [-List.reduceReplicate,iO,tN])|(refine pif (fun h=>?_) (fun h=>?_)<;>first|exact pN h|push_cast [-List.reduceReplicate,iO,tN]))
  refine ⟨(i+1,as2,[],m'),⟨by simp only;omega,by simp only;rw [h2,altGo,dif_neg (by omega),if_pos (by rw [hbe,h124]),has2],by simp only [List.length_nil];omega⟩,(weak_adopt_box 1 as2.length 92 129 (by decide) _ _ (by rfl) (nest_get _ _ _)).trans ?_,by simp only;omega⟩
  (refine weak_keep true [0,1,4] ?_;push_cast [-List.reduceReplicate,iO,tN,hal])
 by_cases h42:b=42
 case pos =>
  have hR:altGo p i as' cur=altGo p (i+1) as' (cur++[starEl]):=by rw [altGo,dif_neg (by omega),hbe,if_neg h124,if_pos h42]
  repeat' (first|((refine plc [] (he) ?_ ?_;push_cast [-List.reduceReplicate,iO,tN,hg,h42,everyL_len];rintro r os ⟨rfl,rfl⟩;push_cast [-List.reduceReplicate,iO,tN,hg,h42,everyL_len]))|((refine pwp_cut 9 [38] ?_;apply pwp_drawn_to;(focus kernel_rfl);(focus (simp only [List.length_cons,List.length_nil,Nat.reduceAdd];(repeat' first|((first|refine pah 0 ?_|refine pah 1 ?_|refine pah 2 ?_|refine pah 3 ?_|refine pah 4 ?_|refine pah 5 ?_|refine pah 6 ?_|refine pah 7 ?_|refine pah 8 ?_|refine pah 13 ?_);push_cast [-List.reduceReplicate,iO,tN,hg,h42,everyL_len])|(refine pad ?_;first|with_reducible exact weak_cutS 9 [38] _|(refine weak_fg ?_;push_cast [-List.reduceReplicate,iO,tN,hg,h42,everyL_len]))|((first|refine pas [9] ?_|refine pas [10] ?_|refine pas [11] ?_|refine pas [12] ?_|refine pas [14] ?_);push_cast [-List.reduceReplicate,iO,tN,hg,h42,everyL_len])|((first|refine pas [9,10] ?_|refine pas [9,11] ?_);push_cast [-List.reduceReplicate,iO,tN,hg,h42,everyL_len];refine ⟨?_,?_⟩));done));push_cast [-List.reduceReplicate,iO,tN,hg,h42,everyL_len]))|((first|refine pC ?_|refine pQC ?_|refine pU ?_);push_cast [-List.reduceReplicate,iO,tN,hg,h42,everyL_len])|(refine pif (fun h=>?_) (fun h=>?_)<;>first|exact pN h|push_cast [-List.reduceReplicate,iO,tN,hg,h42,everyL_len]))
  exact ⟨(i+1,as',cur++[starEl],m),⟨by simp only;omega,by simp only;rw [h2,hR],by simp only [List.length_append,List.length_cons,List.length_nil];omega⟩,by (refine weak_fg ?_;push_cast [-List.reduceReplicate,iO,tN,El.d,starEl]),by simp only;omega⟩
 by_cases h63:b=63
 case pos =>
  have hR:altGo p i as' cur=altGo p (i+1) as' (cur++[askEl]):=by rw [altGo,dif_neg (by omega),hbe,if_neg h124,if_neg h42,if_pos h63]
  repeat' (first|((refine plc [] (he) ?_ ?_;push_cast [-List.reduceReplicate,iO,tN,hg,h63,everyL_len];rintro r os ⟨rfl,rfl⟩;push_cast [-List.reduceReplicate,iO,tN,hg,h63,everyL_len]))|((refine pwp_cut 9 [38] ?_;apply pwp_drawn_to;(focus kernel_rfl);(focus (simp only [List.length_cons,List.length_nil,Nat.reduceAdd];(repeat' first|((first|refine pah 0 ?_|refine pah 1 ?_|refine pah 2 ?_|refine pah 3 ?_|refine pah 4 ?_|refine pah 5 ?_|refine pah 6 ?_|refine pah 7 ?_|refine pah 8 ?_|refine pah 13 ?_);push_cast [-List.reduceReplicate,iO,tN,hg,h63,everyL_len])|(refine pad ?_;first|with_reducible exact weak_cutS 9 [38] _|(refine weak_fg ?_;push_cast [-List.reduceReplicate,iO,tN,hg,h63,everyL_len]))|((first|refine pas [9] ?_|refine pas [10] ?_|refine pas [11] ?_|refine pas [12] ?_|refine pas [14] ?_);push_cast [-List.reduceReplicate,iO,tN,hg,h63,everyL_len])|((first|refine pas [9,10] ?_|refine pas [9,11] ?_);push_cast [-List.reduceReplicate,iO,tN,hg,h63,everyL_len];refine ⟨?_,?_⟩));done));push_cast [-List.reduceReplicate,iO,tN,hg,h63,everyL_len]))|((first|refine pC ?_|refine pQC ?_|refine pU ?_);push_cast [-List.reduceReplicate,iO,tN,hg,h63,everyL_len])|(refine pif (fun h=>?_) (fun h=>?_)<;>first|exact pN h|push_cast [-List.reduceReplicate,iO,tN,hg,h63,everyL_len]))
  exact ⟨(i+1,as',cur++[askEl],m),⟨by simp only;omega,by simp only;rw [h2,hR],by simp only [List.length_append,List.length_cons,List.length_nil];omega⟩,by (refine weak_fg ?_;push_cast [-List.reduceReplicate,iO,tN,El.d,askEl]),by simp only;omega⟩
 by_cases h91:b=91
 case pos =>
  have hs1:=hset (i+1) (by omega)
  cases hq:bsetM p (i+1) with
  | none =>
   have hR:altsM p=none:=by rw [h2,altGo_none hlt (hbe.trans h91) hq]
   rw [hq] at hs1
   have hn7:noneS.length=127:=rfl
   repeat' (first|((refine plc [0] (hs1) ?_ ?_;push_cast [-List.reduceReplicate,iO,tN,hg,h91,hn7];rintro r os ⟨rfl,j,rfl⟩;push_cast [-List.reduceReplicate,iO,tN,hg,h91,hn7]))|((first|refine pC ?_|refine pQC ?_|refine pU ?_);push_cast [-List.reduceReplicate,iO,tN,hg,h91,hn7])|(refine pif (fun h=>?_) (fun h=>?_)<;>first|exact pN h|push_cast [-List.reduceReplicate,iO,tN,hg,h91,hn7]))
   (refine retK_of [0] ?_;push_cast [-List.reduceReplicate,iO,tN,hR])
   exact ⟨_,_,leP_refl _,leOs_refl _,⟨j,rfl⟩,rfl⟩
  | some q =>
   have hgt:=bsetM_gt hq
   have hR:altGo p i as' cur=altGo p q.2 as' (cur++[⟨0,false,q.1⟩]):=altGo_some hlt (hbe.trans h91) hq
   have hql:=hgt.2.2
   rw [hq] at hs1
   repeat' (first|((refine plc [0] (hs1) ?_ ?_;push_cast [-List.reduceReplicate,iO,tN,hg,h91,hql];rintro r os ⟨rfl,rfl⟩;push_cast [-List.reduceReplicate,iO,tN,hg,h91,hql]))|((refine pwp_cut 9 [38] ?_;apply pwp_drawn_to;(focus kernel_rfl);(focus (simp only [List.length_cons,List.length_nil,Nat.reduceAdd];(repeat' first|((first|refine pah 0 ?_|refine pah 1 ?_|refine pah 2 ?_|refine pah 3 ?_|refine pah 4 ?_|refine pah 5 ?_|refine pah 6 ?_|refine pah 7 ?_|refine pah 8 ?_|refine pah 13 ?_);push_cast [-List.reduceReplicate,iO,tN,hg,h91,hql])|(refine pad ?_;first|with_reducible exact weak_cutS 9 [38] _|(refine weak_fg ?_;push_cast [-List.reduceReplicate,iO,tN,hg,h91,hql]))|((first|refine pas [9] ?_|refine pas [10] ?_|refine pas [11] ?_|refine pas [12] ?_|refine pas [14] ?_);push_cast [-List.reduceReplicate,iO,tN,hg,h91,hql])|((first|refine pas [9,10] ?_|refine pas [9,11] ?_);push_cast [-List.reduceReplicate,iO,tN,hg,h91,hql];refine ⟨?_,?_⟩));done));push_cast [-List.reduceReplicate,iO,tN,hg,h91,hql]))|((first|refine pC ?_|refine pQC ?_|refine pU ?_);push_cast [-List.reduceReplicate,iO,tN,hg,h91,hql])|(refine pif (fun h=>?_) (fun h=>?_)<;>first|exact pN h|push_cast [-List.reduceReplicate,iO,tN,hg,h91,hql]))
   exact ⟨(q.2,as',cur++[⟨0,false,q.1⟩],m),⟨by simp only;omega,by simp only;rw [h2,hR],by simp only [List.length_append,List.length_cons,List.length_nil];omega⟩,by (refine weak_fg ?_;push_cast [-List.reduceReplicate,iO,tN,El.d]),by simp only;omega⟩
 have hR:altGo p i as' cur=altGo p (i+1) as' (cur++[litEl b]):=by rw [altGo,dif_neg (by omega),hbe,if_neg h124,if_neg h42,if_neg h63,if_neg h91]
 have n124:¬ b.toNat=124:=fun e=>h124 (UInt8.toNat_inj.1 e)
 have n42:¬ b.toNat=42:=fun e=>h42 (UInt8.toNat_inj.1 e)
 have n63:¬ b.toNat=63:=fun e=>h63 (UInt8.toNat_inj.1 e)
 have n91:¬ b.toNat=91:=fun e=>h91 (UInt8.toNat_inj.1 e)
 obtain ⟨sb,hsb⟩:∃ sb,noneS.set b.toNat true=sb:=⟨_,rfl⟩
 have hsl:sb.length=127:=by rw [← hsb,List.length_set];rfl
 have hput:List.take (2+b.toNat) (E.v (.int .u8 (b.toNat:Int)) :: E.v (.bool false) :: List.replicate 127 (E.v (.bool false)))++E.v (.bool true) :: List.drop (2+b.toNat) (E.v (.bool false) :: List.replicate 127 (E.v (.bool false)))=E.v (.int .u8 (b.toNat:Int)) :: E.v (.bool false) :: sb.map fun x=>E.v (.bool x):=by
  have h:=two_put (E.v (.int .u8 (b.toNat:Int))) (E.v (.bool false)) (List.replicate 127 (E.v (.bool false))) b.toNat (E.v (.bool true)) (by rw [List.length_replicate];omega)
  rw [show 2+b.toNat+1=(2+b.toNat)+1 from rfl,List.drop_succ_cons] at h
  rw [h,← hsb,List.map_set,← noneS_rep]
 repeat' (first|((refine pwp_cut 9 [38] ?_;apply pwp_drawn_to;(focus kernel_rfl);(focus (simp only [List.length_cons,List.length_nil,Nat.reduceAdd];(repeat' first|((first|refine pah 0 ?_|refine pah 1 ?_|refine pah 2 ?_|refine pah 3 ?_|refine pah 4 ?_|refine pah 5 ?_|refine pah 6 ?_|refine pah 7 ?_|refine pah 8 ?_|refine pah 13 ?_);push_cast [-List.reduceReplicate,iO,tN,hg,hsl,hput])|(refine pad ?_;first|with_reducible exact weak_cutS 9 [38] _|(refine weak_fg ?_;push_cast [-List.reduceReplicate,iO,tN,hg,hsl,hput]))|((first|refine pas [9] ?_|refine pas [10] ?_|refine pas [11] ?_|refine pas [12] ?_|refine pas [14] ?_);push_cast [-List.reduceReplicate,iO,tN,hg,hsl,hput])|((first|refine pas [9,10] ?_|refine pas [9,11] ?_);push_cast [-List.reduceReplicate,iO,tN,hg,hsl,hput];refine ⟨?_,?_⟩));done));push_cast [-List.reduceReplicate,iO,tN,hg,hsl,hput]))|((first|refine pC ?_|refine pQC ?_|refine pU ?_);push_cast [-List.reduceReplicate,iO,tN,hg,hsl,hput])|(refine pif (fun h=>?_) (fun h=>?_)<;>first|exact pN h|push_cast [-List.reduceReplicate,iO,tN,hg,hsl,hput]))
 exact ⟨(i+1,as',cur++[litEl b],m),⟨by simp only;omega,by simp only;rw [h2,hR],by simp only [List.length_append,List.length_cons,List.length_nil];omega⟩,by (refine weak_fg ?_;push_cast [-List.reduceReplicate,iO,tN,El.d,litEl,hsb]),by simp only;omega⟩
end Go.Proofs.Ythhfpcbpiphfiaa
namespace Go.Proofs.Ythhfpcbpiphfiaa
set_option linter.unusedVariables false
structure Pr where
 pa:Nat
 pi:Nat
 qa:Nat
 qi:Nat
 deriving DecidableEq,Inhabited
abbrev Alts:=List (List El)
def altV (l:Alts) (a:Nat):List El:=l.getD a default
def atV (l:Alts) (a i:Nat):Option El:=if i=(altV l a).length then none else some ((altV l a).getD i default)
structure PrOk (p q:Alts) (x:Pr):Prop where
 a:x.pa < p.length
 i:x.pi≤(altV p x.pa).length
 b:x.qa < q.length
 j:x.qi≤(altV q x.qa).length
def starV (e:Option El):Bool:=match e with
 | none=>false
 | some e=>e.star
def skip1 (p:Alts) (x:Pr):List Pr:=if starV (atV p x.pa x.pi)=true then [⟨x.pa,x.pi+1,x.qa,x.qi⟩] else []
def skip2 (q:Alts) (x:Pr):List Pr:=if starV (atV q x.qa x.qi)=true then [⟨x.pa,x.pi,x.qa,x.qi+1⟩] else []
def skipsV (p q:Alts) (x:Pr):List Pr:=skip1 p x++skip2 q x
def bothV (a b:El):List Bool:=(List.range 127).map fun c=>decide (32≤c) && (a.set.getD c false && b.set.getD c false)
def stepN (a b:El) (x:Pr):Pr:=⟨x.pa,if a.star then x.pi else x.pi+1,x.qa,if b.star then x.qi else x.qi+1⟩
def stepV (p q:Alts) (x:Pr):Option (Pr × List Bool):=match atV p x.pa x.pi,atV q x.qa x.qi with
 | some a,some b=>if a.star && b.star then none else some (stepN a b x,bothV a b)
 | _,_=>none
def anyB (l:List Bool):Bool:=l.any fun b=>b
def lessV (best n:Int):Int:=if 0≤n∧(best < 0∨n < best) then n else best
def endV (p q:Alts) (x:Pr):Int:=if x.pi=(altV p x.pa).length∧x.qi=(altV q x.qa).length then 0 else -1
def measV (p q:Alts) (x:Pr):Nat:=((altV p x.pa).length - x.pi)+((altV q x.qa).length - x.qi)
def costF (p q:Alts):Nat → Pr → Int
 | 0,_ => -1
 | n+1,x =>
  let b:=(skipsV p q x).foldl (fun b y=>lessV b (costF p q n y)) (endV p q x)
  match stepV p q x with
  | none=>b
  | some (y,s)=>if anyB s=true∧0≤costF p q n y then lessV b (costF p q n y+1) else b
def costV (p q:Alts) (x:Pr):Int:=costF p q (measV p q x+1) x
theorem starV_some {l:Alts} {a i:Nat} (hi:i≤(altV l a).length) (h:starV (atV l a i)=true):i < (altV l a).length:=by
 unfold starV atV at h
 split at h
 ·cases h
 ·rename_i e he
  split at he
  ·cases he
  ·omega
theorem skipsV_ok {p q:Alts} {x y:Pr} (h:PrOk p q x) (hy:y ∈ skipsV p q x):PrOk p q y∧measV p q y < measV p q x:=by
 obtain ⟨h1,h2,h3,h4⟩:=h
 unfold skipsV skip1 skip2 at hy
 rcases List.mem_append.1 hy with hy|hy
 ·split at hy
  ·rename_i hs
   have:=starV_some h2 hs
   simp only [List.mem_singleton] at hy
   subst hy
   exact ⟨⟨h1,by simp only;omega,h3,h4⟩,by unfold measV;simp only;omega⟩
  ·cases hy
 ·split at hy
  ·rename_i hs
   have:=starV_some h4 hs
   simp only [List.mem_singleton] at hy
   subst hy
   exact ⟨⟨h1,h2,h3,by simp only;omega⟩,by unfold measV;simp only;omega⟩
  ·cases hy
theorem atV_some {l:Alts} {a i:Nat} {e:El} (hi:i≤(altV l a).length) (h:atV l a i=some e):i < (altV l a).length∧e=(altV l a).getD i default:=by
 unfold atV at h
 split at h
 ·cases h
 ·cases h
  exact ⟨by omega,rfl⟩
theorem stepV_ok {p q:Alts} {x y:Pr} {s:List Bool} (h:PrOk p q x) (hy:stepV p q x=some (y,s)):PrOk p q y∧measV p q y < measV p q x:=by
 obtain ⟨h1,h2,h3,h4⟩:=h
 unfold stepV at hy
 split at hy
 ·rename_i a b ha hb
  split at hy
  ·cases hy
  ·rename_i hs
   cases hy
   obtain ⟨l1,_⟩:=atV_some h2 ha
   obtain ⟨l2,_⟩:=atV_some h4 hb
   unfold stepN measV
   cases h5:a.star<;>cases h6:b.star
   all_goals first
    | (exfalso;apply hs;rw [h5,h6];rfl)
    | (simp only [Bool.false_eq_true,if_false,if_true];exact ⟨⟨h1,by simp only;omega,h3,by simp only;omega⟩,by omega⟩)
 ·cases hy
theorem costF_eq {p q:Alts}:∀ (n m:Nat) (x:Pr),PrOk p q x → measV p q x < n → measV p q x < m → costF p q n x=costF p q m x
 | 0,m,x,_,h,_=>absurd h (Nat.not_lt_zero _)
 | n+1,0,x,_,_,h=>absurd h (Nat.not_lt_zero _)
 | n+1,m+1,x,hx,hn,hm=>by
  have hsk:∀ y ∈ skipsV p q x,costF p q n y=costF p q m y:=fun y hy=>by
   obtain ⟨h1,h2⟩:=skipsV_ok hx hy
   exact costF_eq n m y h1 (by omega) (by omega)
  have hfold:∀ (l:List Pr) (b:Int),(∀ y ∈ l,costF p q n y=costF p q m y) → l.foldl (fun b y=>lessV b (costF p q n y)) b=l.foldl (fun b y=>lessV b (costF p q m y)) b:=by
   intro l
   induction l with
   | nil=>intro b _;rfl
   | cons a l ih =>
    intro b h
    rw [List.foldl_cons,List.foldl_cons,h a (by simp),ih _ fun y hy=>h y (by simp [hy])]
  rw [costF,costF,hfold _ _ hsk]
  cases hs:stepV p q x with
  | none=>rfl
  | some ys =>
   obtain ⟨y,s⟩:=ys
   obtain ⟨h1,h2⟩:=stepV_ok hx hs
   simp only
   rw [costF_eq n m y h1 (by omega) (by omega)]
theorem costV_step {p q:Alts} {x:Pr} (hx:PrOk p q x):costV p q x =
  (let b:=(skipsV p q x).foldl (fun b y=>lessV b (costV p q y)) (endV p q x)
   match stepV p q x with
   | none=>b
   | some (y,s)=>if anyB s=true∧0≤costV p q y then lessV b (costV p q y+1) else b):=by
 have he:∀ y,PrOk p q y → measV p q y < measV p q x → costF p q (measV p q x) y=costV p q y:=fun y h1 h2=>costF_eq _ _ y h1 h2 (Nat.lt_succ_self _)
 have hfold:∀ (l:List Pr) (b:Int),(∀ y ∈ l,PrOk p q y∧measV p q y < measV p q x) → l.foldl (fun b y=>lessV b (costF p q (measV p q x) y)) b=l.foldl (fun b y=>lessV b (costV p q y)) b:=by
  intro l
  induction l with
  | nil=>intro b _;rfl
  | cons a l ih =>
   intro b h
   rw [List.foldl_cons,List.foldl_cons,he a (h a (by simp)).1 (h a (by simp)).2,ih _ fun y hy=>h y (by simp [hy])]
 conv=>lhs;unfold costV;rw [costF]
 rw [hfold _ _ fun y hy=>skipsV_ok hx hy]
 cases hs:stepV p q x with
 | none=>rfl
 | some ys =>
  obtain ⟨y,s⟩:=ys
  obtain ⟨h1,h2⟩:=stepV_ok hx hs
  simp only
  rw [he y h1 h2]
end Go.Proofs.Ythhfpcbpiphfiaa
namespace Go.Proofs.Ythhfpcbpiphfiaa
open Go.RowKit
open IntWalk renaming iteOmega → iO, toNatUp → tN
set_option linter.unusedVariables false
set_option linter.unusedSimpArgs false
def HidR (X:Prop):Prop:=X
theorem hidR (id:Nat) {rd:Option Nat} {P:Program} {N p:Nat} {Q:Exit → S → Prop} {s:S} {ops:Array Oper} (h:HidR (PWPr rd P N p (.region id ops true) Q s)):PWPr rd P N p (.region id ops true) Q s:=h
theorem unhid {X:Prop} (h:X):HidR X:=h
attribute [irreducible] HidR
end Go.Proofs.Ythhfpcbpiphfiaa
namespace Go.Proofs.Ythhfpcbpiphfiaa
attribute [local irreducible] PL QL PWPr PCalls Weak RetK Kontr PA
open Go.RowKit
open IntWalk renaming iteOmega → iO, toNatUp → tN
set_option linter.unusedVariables false
set_option linter.unusedSimpArgs false
set_option maxRecDepth 20000
def plE2 (a i:Nat):List E:=[.v (.int .i64 a),.v (.int .i64 i)]
def Pr.d (x:Pr):List D:=[.v (.int .i64 x.pa),.v (.int .i64 x.pi),.v (.int .i64 x.qa),.v (.int .i64 x.qi)]
def Pr.e (x:Pr):List E:=[.v (.int .i64 x.pa),.v (.int .i64 x.pi),.v (.int .i64 x.qa),.v (.int .i64 x.qi)]
def Pr.k (x:Pr):MK:=.t [x.pa,x.pi,x.qa,x.qi]
attribute [push_cast] plE2 Pr.d Pr.e
theorem seeEs_ds (v:Bool) (os:List Ob) (ks:List Nat):∀ ds:List D,seeEs v os ks (ds.map D.e)=some (ds.map D.e)
 | []=>rfl
 | d :: ds=>by
  have h:seeE v os ks d.e=some d.e:=by cases d<;>rfl
  simp only [List.map_cons,seeEs,h,seeEs_ds v os ks ds]
theorem wf64 {n:Int} (h : -9223372036854775808≤n∧n≤9223372036854775807):(Lit.int .i64 n).wf=true:=by
 have h1:IntKind.i64.min = -9223372036854775808:=by decide
 have h2:IntKind.i64.max=9223372036854775807:=by decide
 show (decide (IntKind.i64.min≤n) && decide (n≤IntKind.i64.max))=true
 rw [h1,h2,decide_eq_true h.1,decide_eq_true h.2]
 rfl
theorem lits_int (n:Nat) {x:Int} (h : -9223372036854775808≤x∧x≤9223372036854775807):Try.prog.keyLits (n+1) 3 [.int .i64 x]=some [.int .i64 x]:=by
 unfold Program.keyLits
 rw [Try.underlying3]
 simp [wf64 h]
theorem lits_place (n:Nat) {x y:Int} (hx : -9223372036854775808≤x∧x≤9223372036854775807) (hy : -9223372036854775808≤y∧y≤9223372036854775807):Try.prog.keyLits (n+2) 99 [.int .i64 x,.int .i64 y]=some [.int .i64 x,.int .i64 y]:=by
 have hc:Try.prog.cellsOf 99=2:=by kernel_rfl
 have hi:Try.prog.cellsOf 3=1:=by kernel_rfl
 unfold Program.keyLits
 rw [Try.underlying99]
 simp [hc,hi,lits_int n hx,lits_int n hy]
theorem lits_pair (n:Nat) {a b c d:Int} (ha : -9223372036854775808≤a∧a≤9223372036854775807) (hb : -9223372036854775808≤b∧b≤9223372036854775807) (hc : -9223372036854775808≤c∧c≤9223372036854775807) (hd : -9223372036854775808≤d∧d≤9223372036854775807) :
  Try.prog.keyLits (n+3) 101 [.int .i64 a,.int .i64 b,.int .i64 c,.int .i64 d]=some [.int .i64 a,.int .i64 b,.int .i64 c,.int .i64 d]:=by
 have h4:Try.prog.cellsOf 101=4:=by kernel_rfl
 have h2:Try.prog.cellsOf 99=2:=by kernel_rfl
 unfold Program.keyLits
 rw [Try.underlying101]
 simp [h4,h2,lits_place n ha hb,lits_place n hc hd]
theorem prW:WKey Try.prog 101 4:=by
 refine ⟨deep_law_laid (m:=3) (by kernel_rfl) (by decide) (of_decide_eq_true (by kernel_rfl)) (by kernel_rfl) (by kernel_rfl),fun ns hl hb=>?_⟩
 match ns,hl,hb with
 | [a,b,c,d],_,hb =>
  have ha:=hb a (by simp)
  have hb1:=hb b (by simp)
  have hc:=hb c (by simp)
  have hd:=hb d (by simp)
  have h4:Try.prog.cellsOf 101=4:=by kernel_rfl
  have hK:Try.prog.keyType 101=true:=by kernel_rfl
  have hF:Value.formed Try.prog 101 (.agg #[.int .i64 a,.int .i64 b,.int .i64 c,.int .i64 d])=true:=by
   unfold Value.formed
   rw [Try.underlying101]
   simp [h4]
  obtain ⟨n,hn⟩:∃ n,Try.prog.types.size+1=n+3:=⟨Try.prog.types.size - 2,by have:2≤Try.prog.types.size:=of_decide_eq_true (by kernel_rfl);omega⟩
  unfold keyOf
  rw [Try.underlying101]
  simp only [MK.v,List.map_cons,List.map_nil]
  rw [hK,hF,hn]
  rw [if_pos (show (true && true)=true from rfl),show (Value.agg [Value.int .i64 a,.int .i64 b,.int .i64 c,.int .i64 d].toArray).cells.toList=[.int .i64 a,.int .i64 b,.int .i64 c,.int .i64 d] from rfl,lits_pair n ha hb1 hc hd]
  exact ⟨_,rfl⟩
set_option maxHeartbeats 1000000 in
theorem gnext_pure (a i:Nat) (hi:i≤1000000000):PCalls Try.prog 86 [.agg (plE2 a i)] [] fun r os=>r = .agg (plE2 a (i+1))∧os=[]:=by
 refine pcalls_of Try.func86 rfl (by simp [Try.ntmps86]) ?_
 rw [Try.ntmps86,Try.results86]
 push_cast [iO,tN]
 repeat' (first|((first|refine pG ?_|refine pQ ?_|refine pU ?_);push_cast [iO,tN])|(refine pif (fun h=>?_) (fun h=>?_)<;>first|exact pN h|push_cast [iO,tN]))
 (refine retK_of [] ?_;push_cast [iO,tN])
set_option maxHeartbeats 4000000 in
theorem gat_pure (l:Alts) (a i:Nat) (ha:a < l.length) (hi:i≤(altV l a).length) (hl:l.length≤1000000000) (hal:(altV l a).length≤1000000000) (hE:∀ e ∈ altV l a,e.set.length=127):PCalls Try.prog 85 [.c (.sl 1 (altsD l)),.agg (plE2 a i)] [] fun r os=>r = .two (.agg (((atV l a i).getD ⟨0,false,List.replicate 127 false⟩).d.map D.e)) (.c (.v (.bool ((atV l a i).isSome))))∧os=[]:=by
 refine pcalls_of Try.func85 rfl (by simp [Try.ntmps85]) ?_
 rw [Try.ntmps85,Try.results85]
 have ha':(a:Int) < (l.length:Int):=by omega
 have hA:l.getD a default=altV l a:=rfl
 obtain ⟨A,hA2⟩:∃ A,altV l a=A:=⟨_,rfl⟩
 unfold atV
 rw [hA2] at hi hal hA hE ⊢
 push_cast [iO,tN,altsD]
 have cB:CutB 6 [14]:=trivial
 by_cases he:i=A.length
 ·rw [if_pos he]
  subst he
  simp only [Option.getD_none,Option.isSome_none]
  repeat' (first|((refine pwp_cut 6 [14] ?_;apply pwp_drawn_to;(focus kernel_rfl);(focus (simp only [List.length_cons,List.length_nil,Nat.reduceAdd];(repeat' first|((first|refine pah 0 ?_|refine pah 2 ?_|refine pah 3 ?_|refine pah 5 ?_|refine pah 7 ?_|refine pah 8 ?_);push_cast [iO,tN,  ha',hA])|((first|refine pal 1 ?_|refine pal 4 ?_|refine pal 6 ?_);push_cast [iO,tN,  ha',hA])|(refine pad ?_;first|with_reducible exact weak_cutS 6 [14] _|(refine weak_fg ?_;push_cast [iO,tN,  ha',hA])));done));push_cast [iO,tN,  ha',hA]))|((first|refine pC ?_|refine pQC ?_|refine pU ?_);push_cast [iO,tN,ha',hA])|(refine pif (fun h=>?_) (fun h=>?_)<;>first|exact pN h|push_cast [iO,tN,ha',hA]))
  (refine retK_of [] ?_;push_cast [iO,tN,El.d,boolD,List.map_cons,List.map_nil])
 ·rw [if_neg he]
  have he':¬ (i:Int)=(A.length:Int):=by omega
  have hi':(i:Int) < (A.length:Int):=by omega
  have hm:A.getD i default ∈ A:=by rw [getD_lt _ (by omega)];exact List.getElem_mem _
  have hdl:(A.getD i default).d.length=129:=by
   have h1:=hE _ hm
   unfold El.d
   rw [List.length_cons,List.length_cons,List.length_map,h1]
  obtain ⟨e,he2⟩:∃ e,A.getD i default=e:=⟨_,rfl⟩
  obtain ⟨ds,hds⟩:∃ ds,e.d=ds:=⟨_,rfl⟩
  rw [he2] at hdl ⊢
  rw [hds] at hdl
  have hdm:(ds.map D.e).length=129:=by rw [List.length_map];exact hdl
  simp only [Option.getD_some,Option.isSome_some,hds]
  repeat' (first|((refine pwp_cut 6 [14] ?_;apply pwp_drawn_to;(focus kernel_rfl);(focus (simp only [List.length_cons,List.length_nil,Nat.reduceAdd];(repeat' first|((first|refine pah 0 ?_|refine pah 2 ?_|refine pah 3 ?_|refine pah 5 ?_|refine pah 7 ?_|refine pah 8 ?_);push_cast [iO,tN,  ha',hA,he'])|((first|refine pal 1 ?_|refine pal 4 ?_|refine pal 6 ?_);push_cast [iO,tN,  ha',hA,he'])|(refine pad ?_;first|with_reducible exact weak_cutS 6 [14] _|(refine weak_fg ?_;push_cast [iO,tN,  ha',hA,he'])));done));push_cast [iO,tN,  ha',hA,he']))|(refine hidR 3 ?_)|((first|refine pC ?_|refine pQC ?_|refine pU ?_);push_cast [iO,tN,ha',hA,he',hi',he2,hds,hdl,hdm])|(refine pif (fun h=>?_) (fun h=>?_)<;>first|exact pN h|push_cast [iO,tN,ha',hA,he',hi',he2,hds,hdl,hdm]))
  refine unhid ?_
  (refine pwp_cut 6 [14] ?_;apply pwp_drawn_to;(focus kernel_rfl);(focus (simp only [List.length_cons,List.length_nil,Nat.reduceAdd];(repeat' first|((first|refine pah 0 ?_|refine pah 1 ?_|refine pah 3 ?_|refine pah 5 ?_|refine pah 7 ?_|refine pah 10 ?_);push_cast [iO,tN,  ha',hA,hi',he2,hds,hdl,hdm])|((first|refine pal 2 ?_|refine pal 4 ?_|refine pal 6 ?_|refine pal 8 ?_);push_cast [iO,tN,  ha',hA,hi',he2,hds,hdl,hdm])|(refine pad ?_;first|with_reducible exact weak_cutS 6 [14] _|(refine weak_fg ?_;push_cast [iO,tN,  ha',hA,hi',he2,hds,hdl,hdm]))|((first|refine pas [9] ?_);push_cast [iO,tN,  ha',hA,hi',he2,hds,hdl,hdm]));done));push_cast [iO,tN,  ha',hA,hi',he2,hds,hdl,hdm])
  (refine retK_of [] ?_;push_cast [iO,tN,hdm,seeEs_ds,leEs_same])
end Go.Proofs.Ythhfpcbpiphfiaa
