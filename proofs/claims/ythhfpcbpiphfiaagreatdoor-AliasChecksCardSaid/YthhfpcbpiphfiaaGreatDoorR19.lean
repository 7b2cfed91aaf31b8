/- What the program computes, and the plain laws of it, part 19. -/
import Derived.WideKeyEntry
import Derived.Test.YthhfpcbpiphfiaaGreatDoorR18
namespace Go.Proofs.YthhfpcbpiphfiaaGreatDoor
attribute [local irreducible] PL QL PWPr PCalls Weak RetK Kontr PA
open Go.RowKit
open IntWalk renaming iteOmega → iO, toNatUp → tN
set_option linter.unusedVariables false
set_option linter.unusedSimpArgs false
set_option maxRecDepth 20000
def boolD (b:Bool):D:=.v (.bool b)
def El.d (e:El):List D:=.v (.int .u8 (e.lit:Int)) :: .v (.bool e.star) :: e.set.map boolD
theorem boolD_e (l:List Bool):(l.map boolD).map D.e=l.map boolE:=by rw [List.map_map];rfl
def altsD (l:List (List El)):List (List D):=l.map fun a=>[D.sl 129 (a.map El.d)]
theorem toDs_bools (l:List Bool):toDs (l.map fun x=>E.v (.bool x))=some (l.map boolD):=by
 induction l with
 | nil=>rfl
 | cons b l ih=>simp only [List.map_cons,toDs,toD,ih];rfl
abbrev outB (l0:List (List El)) (x:E) (m:Nat):Ob:=.box 111 (nestE 129 El.d l0 x m)
abbrev innB (cur:List El):Ob:=.arr 140 129 (cur.map El.d)
theorem zer_el:zerOf Tryz.prog 140=some (.v (.int .u8 0) :: .v (.bool false) :: List.replicate 127 (.v (.bool false))):=by kernel_rfl
attribute [push_cast] zer_el toDs_bools
theorem altGo_none {p:ByteArray} {i:Nat} {l:List (List El)} {x:List El} (h:i < p.size) (hb:byt p i=91) (hn:bsetM p (i+1)=none):altGo p i l x=none:=by
 rw [altGo,dif_neg (by omega),if_neg (by rw [hb];decide),if_neg (by rw [hb];decide),if_neg (by rw [hb];decide),if_pos hb]
 split
 ·rfl
 ·rename_i r hr;rw [hn] at hr;cases hr
theorem altGo_some {p:ByteArray} {i:Nat} {l:List (List El)} {x:List El} {q:List Bool × Nat} (h:i < p.size) (hb:byt p i=91) (hn:bsetM p (i+1)=some q):altGo p i l x=altGo p q.2 l (x++[⟨0,false,q.1⟩]):=by
 rw [altGo,dif_neg (by omega),if_neg (by rw [hb];decide),if_neg (by rw [hb];decide),if_neg (by rw [hb];decide),if_pos hb]
 split
 ·rename_i hr;rw [hn] at hr;cases hr
 ·rename_i r hr;rw [hn] at hr;cases hr;rfl
def SetOk (p:ByteArray):Prop:=∀ i,i≤p.size → PCalls Tryz.prog 67 [.c (.ptr 0 0)] [.box 107 (rdE p i)] fun r os =>
   match bsetM p i with
   | none=>r = .two (.agg (noneS.map boolE)) (.c (.v (.bool false)))∧∃ j:Nat,os=[.box 107 (rdE p j)]
   | some q=>r = .two (.agg (q.1.map boolE)) (.c (.v (.bool true)))∧os=[.box 107 (rdE p q.2)]
set_option maxRecDepth 20000 in
set_option maxHeartbeats 4000000 in
theorem alts_pure (p:ByteArray) (hp:p.size≤1000000) (hb:∀ k,byt p k≤126) (hset:SetOk p) :
  PCalls Tryz.prog 48 [.c (.ptr 0 0)] [.box 107 (rdE p 0)] fun r os =>
   (∃ i:Nat,os=[.box 107 (rdE p i)]) ∧
   match altsM p with
   | none=>r = .two (.c (.v (.slice none 0 0))) (.c (.v (.bool false)))
   | some l=>r = .two (.c (.sl 1 (altsD l))) (.c (.v (.bool true))):=by
 have he:=every_pure
 refine pcalls_of Tryz.func48 rfl (by simp [Tryz.ntmps48]) ?_
 rw [Tryz.ntmps48,Tryz.results48]
 push_cast [-List.reduceReplicate,iO,tN]
 have cB:CutB 9 [38]:=trivial
 refine pwp_seq fun K hK=>?_
 refine pwp_region ?_
 push_cast [-List.reduceReplicate,iO,tN]
 refine Kont.use (by assumption) ?_
 refine pwp_seq fun K hK=>?_
 refine pwp_regionL ?_
 refine pl_nest rfl rfl rfl rfl rfl (by push_cast [-List.reduceReplicate,iO,tN]) ?_
 push_cast [-List.reduceReplicate,iO,tN]
 refine pl_of_pops ?_
 push_cast [-List.reduceReplicate,iO,tN]
 refine Kont.use (by assumption) ?_
 refine pwp_weak (weak_adopt_box 1 0 140 129 (by decide) _ _ (by rfl) (by rfl)) ?_
 push_cast [-List.reduceReplicate,iO,tN,List.set_cons_zero]
 have e0:[E.own 2 0]=nestE 129 El.d [] (.own 2 0) 0:=nest_one _
 rw [e0]
 repeat' (first|((first|refine pC ?_|refine pQC ?_|refine pU ?_);push_cast [-List.reduceReplicate,iO,tN])|(refine pif (fun h=>?_) (fun h=>?_)<;>first|exact pN h|push_cast [-List.reduceReplicate,iO,tN]))
 (apply pwp_loop3 (α:=Nat × List (List El) × List El × Nat) 9 [38] (fun x=>[(4,.c (.own 1 (x.2.1.length+1)))]) (fun x=>[(0,.box 107 (rdE p x.1)),(1,outB x.2.1 (.own 2 x.2.2.1.length) x.2.2.2),(2,innB x.2.2.1)]) (fun x=>x.1≤p.size∧altsM p=altGo p x.1 x.2.1 x.2.2.1∧x.2.1.length+x.2.2.1.length≤x.1) (fun x=>p.size - x.1) ((0,[],[],0));(focus ((try push_cast [-List.reduceReplicate,iO,tN]);rfl));(focus exact ⟨Nat.zero_le _,rfl,Nat.le_refl _⟩);(focus ((refine weak_fg ?_;try push_cast [-List.reduceReplicate,iO,tN]))))
 rintro ⟨i,as',cur,m⟩ ⟨h1,h2,h3⟩
 simp only at h1 h2 h3 ⊢
 push_cast [-List.reduceReplicate,iO,tN]
 by_cases hlt:i < p.size
 case neg =>
  have hR:altsM p=some (as'++[cur]):=by rw [h2,altGo,dif_pos (by omega)]
  refine pwp_weak (weak_frz 2 (by omega)) ?_
  push_cast [-List.reduceReplicate,iO,tN]
  refine pwp_weak (weak_frzbox 4 (k:=1) (n:=as'.length+1) (ds:=(as'++[cur]).map fun a=>D.sl 129 (a.map El.d)) (by omega) (by rfl) (by rfl) (nest_toDs _ _ _) (by simp)) ?_
  push_cast [-List.reduceReplicate,iO,tN]
  repeat' (first|((first|refine pC ?_|refine pQC ?_|refine pU ?_);push_cast [-List.reduceReplicate,iO,tN])|(refine pif (fun h=>?_) (fun h=>?_)<;>first|exact pN h|push_cast [-List.reduceReplicate,iO,tN]))
  (refine retK_of [0] ?_;push_cast [-List.reduceReplicate,iO,tN,hR])
  exact ⟨_,_,leP_refl _,leOs_refl _,⟨i,rfl⟩,by simp [altsD]⟩
 obtain ⟨b,hbe⟩:∃ b,byt p i=b:=⟨_,rfl⟩
 have hb1:b.toNat≤126:=by rw [← hbe];exact UInt8.le_iff_toNat_le.1 (hb i)
 have hg:p.data.toList.getD i 0=b:=hbe
 by_cases h124:b=124
 case pos =>
  refine pwp_weak (weak_frz 2 (by omega)) ?_
  push_cast [-List.reduceReplicate,iO,tN]
  repeat' (first|(refine pl_appbox 1 rfl rfl (by push_cast [-List.reduceReplicate,iO,tN,hg,h124]) rfl rfl rfl rfl rfl (by push_cast [-List.reduceReplicate,iO,tN,hg,h124]) (by push_cast [-List.reduceReplicate,iO,tN,hg,h124]) (by omega) rfl (by omega) (by omega) ?_;intro m';push_cast [-List.reduceReplicate,iO,tN,hg,h124])|((first|refine pC ?_|refine pQC ?_|refine pU ?_);push_cast [-List.reduceReplicate,iO,tN,hg,h124])|(refine pif (fun h=>?_) (fun h=>?_)<;>first|exact pN h|push_cast [-List.reduceReplicate,iO,tN,hg,h124]))
  have hnl:as'.length+1≤(nestE 129 El.d as' (E.sl 129 (cur.map El.d)) m).length:=by rw [nest_len];omega
  refine pl_appbox 1 (by':=24) (z0:=.v (.slice none 0 0)) (d:=.v (.slice none 0 0)) rfl rfl (by push_cast [-List.reduceReplicate,iO,tN]) rfl (by kernel_rfl) (by kernel_rfl) rfl rfl hnl (by omega) (Nat.le_refl _) rfl (by omega) (by omega) ?_
  intro m'
  push_cast [-List.reduceReplicate,iO,tN]
  refine pl_of_pops ?_
  push_cast [-List.reduceReplicate,iO,tN]
  obtain ⟨as2,has2⟩:∃ as2,as'++[cur]=as2:=⟨_,rfl⟩
  have hal:as'.length+1=as2.length:=by rw [← has2];simp
  rw [has2]
  repeat' (first|((first|refine pC ?_|refine pQC ?_|refine pU ?_);push_cast [-List.reduceReplicate,iO,tN])|(refine pif (fun h=>?_) (fun h=>?_)<;>first|exact pN h|push_cast [-List.reduceReplicate,iO,tN]))
  refine ⟨(i+1,as2,[],m'),⟨by simp only;omega,by simp only;rw [h2,altGo,dif_neg (by omega),if_pos (by rw [hbe,h124]),has2],by simp only [List.length_nil];omega⟩,(weak_adopt_box 1 as2.length 140 129 (by decide) _ _ (by rfl) (nest_get _ _ _)).trans ?_,by simp only;omega⟩
  (refine weak_keep true [0,1,4] ?_;push_cast [-List.reduceReplicate,iO,tN,hal])
 by_cases h42:b=42
 case pos =>
  have hR:altGo p i as' cur=altGo p (i+1) as' (cur++[starEl]):=by rw [altGo,dif_neg (by omega),hbe,if_neg h124,if_pos h42]
  repeat' (first|((refine plc [] (he) ?_ ?_;push_cast [-List.reduceReplicate,iO,tN,hg,h42,everyL_len];rintro r os ⟨rfl,rfl⟩;push_cast [-List.reduceReplicate,iO,tN,hg,h42,everyL_len]))|((refine pwp_cut 9 [38] ?_;apply pwp_drawn_to;(focus kernel_rfl);(focus (simp only [List.length_cons,List.length_nil,Nat.reduceAdd];(repeat' first|((first|refine pah 0 ?_|refine pah 1 ?_|refine pah 2 ?_|refine pah 3 ?_|refine pah 4 ?_|refine pah 5 ?_|refine pah 6 ?_|refine pah 7 ?_|refine pah 8 ?_|refine pah 13 ?_);push_cast [-List.reduceReplicate,iO,tN,hg,h42,everyL_len])|(refine pad ?_;first|with_reducible exact weak_cutS 9 [38] _|(refine weak_fg ?_;push_cast [-List.reduceReplicate,iO,tN,hg,h42,everyL_len]))|((first|refine pas [9] ?_|refine pas [10] ?_|refine pas [11] ?_|refine pas [12] ?_|refine pas [14] ?_);push_cast [-List.reduceReplicate,iO,tN,hg,h42,everyL_len])|((first|refine pas [9,10] ?_|refine pas [9,11] ?_);push_cast [-List.reduceReplicate,iO,tN,hg,h42,everyL_len];refine ⟨?_,?_⟩));done));push_cast [-List.reduceReplicate,iO,tN,hg,h42,everyL_len]))|((first|refine pC ?_|refine pQC ?_|refine pU ?_);push_cast [-List.reduceReplicate,iO,tN,hg,h42,everyL_len])|(refine pif (fun h=>?_) (fun h=>?_)<;>first|exact pN h|push_cast [-List.reduceReplicate,iO,tN,hg,h42,everyL_len]))
  exact ⟨(i+1,as',cur++[starEl],m),⟨by simp only;omega,by simp only;rw [h2,hR],by simp only [List.length_append,List.length_cons,List.length_nil];omega⟩,by (refine weak_fg ?_;push_cast [-List.reduceReplicate,iO,tN,El.d,starEl]),by simp only;omega⟩
 by_cases h63:b=63
 case pos =>
  have hR:altGo p i as' cur=altGo p (i+1) as' (cur++[askEl]):=by rw [altGo,dif_neg (by omega),hbe,if_neg h124,if_neg h42,if_pos h63]
  repeat' (first|((refine plc [] (he) ?_ ?_;push_cast [-List.reduceReplicate,iO,tN,hg,h63,everyL_len];rintro r os ⟨rfl,rfl⟩;push_cast [-List.reduceReplicate,iO,tN,hg,h63,everyL_len]))|((refine pwp_cut 9 [38] ?_;apply pwp_drawn_to;(focus kernel_rfl);(focus (simp only [List.length_cons,List.length_nil,Nat.reduceAdd];(repeat' first|((first|refine pah 0 ?_|refine pah 1 ?_|refine pah 2 ?_|refine pah 3 ?_|refine pah 4 ?_|refine pah 5 ?_|refine pah 6 ?_|refine pah 7 ?_|refine pah 8 ?_|refine pah 13 ?_);push_cast [-List.reduceReplicate,iO,tN,hg,h63,everyL_len])|(refine pad ?_;first|with_reducible exact weak_cutS 9 [38] _|(refine weak_fg ?_;push_cast [-List.reduceReplicate,iO,tN,hg,h63,everyL_len]))|((first|refine pas [9] ?_|refine pas [10] ?_|refine pas [11] ?_|refine pas [12] ?_|refine pas [14] ?_);push_cast [-List.reduceReplicate,iO,tN,hg,h63,everyL_len])|((first|refine pas [9,10] ?_|refine pas [9,11] ?_);push_cast [-List.reduceReplicate,iO,tN,hg,h63,everyL_len];refine ⟨?_,?_⟩));done));push_cast [-List.reduceReplicate,iO,tN,hg,h63,everyL_len]))|((first|refine pC ?_|refine pQC ?_|refine pU ?_);push_cast [-List.reduceReplicate,iO,tN,hg,h63,everyL_len])|(refine pif (fun h=>?_) (fun h=>?_)<;>first|exact pN h|push_cast [-List.reduceReplicate,iO,tN,hg,h63,everyL_len]))
  exact ⟨(i+1,as',cur++[askEl],m),⟨by simp only;omega,by simp only;rw [h2,hR],by simp only [List.length_append,List.length_cons,List.length_nil];omega⟩,by (refine weak_fg ?_;push_cast [-List.reduceReplicate,iO,tN,El.d,askEl]),by simp only;omega⟩
 by_cases h91:b=91
 case pos =>
  have hs1:=hset (i+1) (by omega)
  cases hq:bsetM p (i+1) with
  | none =>
   have hR:altsM p=none:=by rw [h2,altGo_none hlt (hbe.trans h91) hq]
   rw [hq] at hs1
   have hn7:noneS.length=127:=rfl
   repeat' (first|((refine plc [0] (hs1) ?_ ?_;push_cast [-List.reduceReplicate,iO,tN,hg,h91,hn7];rintro r os ⟨rfl,j,rfl⟩;push_cast [-List.reduceReplicate,iO,tN,hg,h91,hn7]))|((first|refine pC ?_|refine pQC ?_|refine pU ?_);push_cast [-List.reduceReplicate,iO,tN,hg,h91,hn7])|(refine pif (fun h=>?_) (fun h=>?_)<;>first|exact pN h|push_cast [-List.reduceReplicate,iO,tN,hg,h91,hn7]))
   (refine retK_of [0] ?_;push_cast [-List.reduceReplicate,iO,tN,hR])
   exact ⟨_,_,leP_refl _,leOs_refl _,⟨j,rfl⟩,rfl⟩
  | some q =>
   have hgt:=bsetM_gt hq
   have hR:altGo p i as' cur=altGo p q.2 as' (cur++[⟨0,false,q.1⟩]):=altGo_some hlt (hbe.trans h91) hq
   have hql:=hgt.2.2
   rw [hq] at hs1
   repeat' (first|((refine plc [0] (hs1) ?_ ?_;push_cast [-List.reduceReplicate,iO,tN,hg,h91,hql];rintro r os ⟨rfl,rfl⟩;push_cast [-List.reduceReplicate,iO,tN,hg,h91,hql]))|((refine pwp_cut 9 [38] ?_;apply pwp_drawn_to;(focus kernel_rfl);(focus (simp only [List.length_cons,List.length_nil,Nat.reduceAdd];(repeat' first|((first|refine pah 0 ?_|refine pah 1 ?_|refine pah 2 ?_|refine pah 3 ?_|refine pah 4 ?_|refine pah 5 ?_|refine pah 6 ?_|refine pah 7 ?_|refine pah 8 ?_|refine pah 13 ?_);push_cast [-List.reduceReplicate,iO,tN,hg,h91,hql])|(refine pad ?_;first|with_reducible exact weak_cutS 9 [38] _|(refine weak_fg ?_;push_cast [-List.reduceReplicate,iO,tN,hg,h91,hql]))|((first|refine pas [9] ?_|refine pas [10] ?_|refine pas [11] ?_|refine pas [12] ?_|refine pas [14] ?_);push_cast [-List.reduceReplicate,iO,tN,hg,h91,hql])|((first|refine pas [9,10] ?_|refine pas [9,11] ?_);push_cast [-List.reduceReplicate,iO,tN,hg,h91,hql];refine ⟨?_,?_⟩));done));push_cast [-List.reduceReplicate,iO,tN,hg,h91,hql]))|((first|refine pC ?_|refine pQC ?_|refine pU ?_);push_cast [-List.reduceReplicate,iO,tN,hg,h91,hql])|(refine pif (fun h=>?_) (fun h=>?_)<;>first|exact pN h|push_cast [-List.reduceReplicate,iO,tN,hg,h91,hql]))
   exact ⟨(q.2,as',cur++[⟨0,false,q.1⟩],m),⟨by simp only;omega,by simp only;rw [h2,hR],by simp only [List.length_append,List.length_cons,List.length_nil];omega⟩,by (refine weak_fg ?_;push_cast [-List.reduceReplicate,iO,tN,El.d]),by simp only;omega⟩
 have hR:altGo p i as' cur=altGo p (i+1) as' (cur++[litEl b]):=by rw [altGo,dif_neg (by omega),hbe,if_neg h124,if_neg h42,if_neg h63,if_neg h91]
 have n124:¬ b.toNat=124:=fun e=>h124 (UInt8.toNat_inj.1 e)
 have n42:¬ b.toNat=42:=fun e=>h42 (UInt8.toNat_inj.1 e)
 have n63:¬ b.toNat=63:=fun e=>h63 (UInt8.toNat_inj.1 e)
 have n91:¬ b.toNat=91:=fun e=>h91 (UInt8.toNat_inj.1 e)
 obtain ⟨sb,hsb⟩:∃ sb,noneS.set b.toNat true=sb:=⟨_,rfl⟩
 have hsl:sb.length=127:=by rw [← hsb,List.length_set];rfl
 have hput:List.take (2+b.toNat) (E.v (.int .u8 (b.toNat:Int)) :: E.v (.bool false) :: List.replicate 127 (E.v (.bool false)))++E.v (.bool true) :: List.drop (2+b.toNat) (E.v (.bool false) :: List.replicate 127 (E.v (.bool false)))=E.v (.int .u8 (b.toNat:Int)) :: E.v (.bool false) :: sb.map fun x=>E.v (.bool x):=by
  have h:=two_put (E.v (.int .u8 (b.toNat:Int))) (E.v (.bool false)) (List.replicate 127 (E.v (.bool false))) b.toNat (E.v (.bool true)) (by rw [List.length_replicate];omega)
  rw [show 2+b.toNat+1=(2+b.toNat)+1 from rfl,List.drop_succ_cons] at h
  rw [h,← hsb,List.map_set,← noneS_rep]
 repeat' (first|((refine pwp_cut 9 [38] ?_;apply pwp_drawn_to;(focus kernel_rfl);(focus (simp only [List.length_cons,List.length_nil,Nat.reduceAdd];(repeat' first|((first|refine pah 0 ?_|refine pah 1 ?_|refine pah 2 ?_|refine pah 3 ?_|refine pah 4 ?_|refine pah 5 ?_|refine pah 6 ?_|refine pah 7 ?_|refine pah 8 ?_|refine pah 13 ?_);push_cast [-List.reduceReplicate,iO,tN,hg,hsl,hput])|(refine pad ?_;first|with_reducible exact weak_cutS 9 [38] _|(refine weak_fg ?_;push_cast [-List.reduceReplicate,iO,tN,hg,hsl,hput]))|((first|refine pas [9] ?_|refine pas [10] ?_|refine pas [11] ?_|refine pas [12] ?_|refine pas [14] ?_);push_cast [-List.reduceReplicate,iO,tN,hg,hsl,hput])|((first|refine pas [9,10] ?_|refine pas [9,11] ?_);push_cast [-List.reduceReplicate,iO,tN,hg,hsl,hput];refine ⟨?_,?_⟩));done));push_cast [-List.reduceReplicate,iO,tN,hg,hsl,hput]))|((first|refine pC ?_|refine pQC ?_|refine pU ?_);push_cast [-List.reduceReplicate,iO,tN,hg,hsl,hput])|(refine pif (fun h=>?_) (fun h=>?_)<;>first|exact pN h|push_cast [-List.reduceReplicate,iO,tN,hg,hsl,hput]))
 exact ⟨(i+1,as',cur++[litEl b],m),⟨by simp only;omega,by simp only;rw [h2,hR],by simp only [List.length_append,List.length_cons,List.length_nil];omega⟩,by (refine weak_fg ?_;push_cast [-List.reduceReplicate,iO,tN,El.d,litEl,hsb]),by simp only;omega⟩
set_option maxRecDepth 20000
def rset (e:El):List Bool:=if e.star then List.replicate 128 false else e.set++[false]
def El.r (e:El):List D:=.v (.bool e.star) :: .v (.bool (decide (e.lit≠0))) :: (rset e).map boolD
def altsR (l:List (List El)):List (List D):=l.map fun a=>[D.sl 130 (a.map El.r)]
abbrev outR (l0:List (List El)) (x:E) (m:Nat):Ob:=.box 138 (nestE 130 El.r l0 x m)
abbrev innR (cur:List El):Ob:=.arr 135 130 (cur.map El.r)
theorem every_app:fillN (noneS++[false]) 32 95=everyL++[false]:=fillN_app noneS 32 95 (by rw [show noneS.length=127 from List.length_replicate];decide)
theorem toDs_rep (b:Bool):∀ n,toDs (List.replicate n (E.v (.bool b)))=some (List.replicate n (boolD b))
 | 0=>rfl
 | n+1=>by simp only [List.replicate_succ,toDs,toD,toDs_rep b n];rfl
attribute [push_cast] toDs_rep
theorem r_star:El.r starEl=D.v (.bool true) :: List.replicate 129 (boolD false):=by
 unfold El.r starEl rset
 simp only [if_true,List.map_replicate]
 rfl
theorem r_set (s:List Bool) (f:Bool) (n:Nat) (h:decide (n≠0)=f):El.r ⟨n,false,s⟩=D.v (.bool false) :: D.v (.bool f) :: (s++[false]).map boolD:=by
 unfold El.r rset
 simp only [h]
 rfl
set_option maxRecDepth 20000 in
theorem z130:List.replicate 130 (E.v (.bool false))=elC (List.replicate 128 false):=rfl
def rparseR (p:ByteArray):PV:=.two (if p.data.toList.all textB∧(altsM p).isSome then .c (.sl 1 (altsR ((altsM p).getD []))) else .c (.v (.slice none 0 0))) (.c (.v (.bool (p.data.toList.all textB && (altsM p).isSome))))
set_option maxRecDepth 20000 in
set_option maxHeartbeats 8000000 in
theorem rparse_pure (p:ByteArray) (hp:p.size≤1000000):PCalls Tryz.prog 46 [.c (.v (.string p))] [] fun r os=>r=rparseR p∧os=[]:=by
 have hpr:=gprint_pure p (by omega)
 refine pcalls_of Tryz.func46 rfl (by simp [Tryz.ntmps46]) ?_
 rw [Tryz.ntmps46,Tryz.results46]
 push_cast [-List.reduceReplicate,iO,tN]
 have cB:CutB 11 [23]:=trivial
 by_cases htx:p.data.toList.all textB=true
 case neg =>
  have htf:=Bool.eq_false_iff.2 htx
  rw [htf] at hpr
  have hR:rparseR p = .two (.c (.v (.slice none 0 0))) (.c (.v (.bool false))):=by unfold rparseR;rw [htf];simp
  repeat' (first |  ((refine plc [] (hpr) ?_ ?_;push_cast [-List.reduceReplicate,iO,tN];rintro r os ⟨rfl,rfl⟩;push_cast [-List.reduceReplicate,iO,tN]))  | ((first|refine pC ?_|refine pQC ?_|refine pU ?_);push_cast [-List.reduceReplicate,iO,tN])|(refine pif (fun h=>?_) (fun h=>?_)<;>first|exact pN h|push_cast [-List.reduceReplicate,iO,tN]))
  (refine retK_of [] ?_;push_cast [-List.reduceReplicate,iO,tN,hR])
 rw [htx] at hpr
 have hb:=fun k=>text_byt htx k
 have hlo:=fun k hk=>text_lo htx k hk
 repeat' (first |  ((refine plc [] (hpr) ?_ ?_;push_cast [-List.reduceReplicate,iO,tN];rintro r os ⟨rfl,rfl⟩;push_cast [-List.reduceReplicate,iO,tN]))|(refine pwp_seq fun K hK=>?_)|(refine pwp_block ?_)|(refine pwp_regionL ?_;refine pl_nest rfl rfl rfl rfl rfl (by push_cast [-List.reduceReplicate,iO,tN]) ?_;push_cast [-List.reduceReplicate,iO,tN];refine pl_of_pops ?_;push_cast [-List.reduceReplicate,iO,tN])  | ((first|refine pC ?_|refine pQC ?_|refine pU ?_);push_cast [-List.reduceReplicate,iO,tN])|(refine pif (fun h=>?_) (fun h=>?_)<;>first|exact pN h|push_cast [-List.reduceReplicate,iO,tN]))
 refine pwp_weak (weak_adopt_box 0 0 135 130 (by decide) _ _ (by rfl) (by rfl)) ?_
 push_cast [-List.reduceReplicate,iO,tN,List.set_cons_zero]
 have e0:[E.own 1 0]=nestE 130 El.r [] (.own 1 0) 0:=nest_one _
 rw [e0]
 (apply pwp_loop3 (α:=Nat × List (List El) × List El × Nat) 11 [23] (fun x=>[(4,.c (.own 0 (x.2.1.length+1))),(5,.c (.v (.int .i64 x.1)))]) (fun x=>[(0,outR x.2.1 (.own 1 x.2.2.1.length) x.2.2.2),(1,innR x.2.2.1)]) (fun x=>x.1≤p.size∧altsM p=altGo p x.1 x.2.1 x.2.2.1∧x.2.1.length+x.2.2.1.length≤x.1) (fun x=>p.size - x.1) ((0,[],[],0));(focus ((try push_cast [-List.reduceReplicate,iO,tN]);rfl));(focus exact ⟨Nat.zero_le _,rfl,Nat.le_refl _⟩);(focus ((refine weak_fg ?_;try push_cast [-List.reduceReplicate,iO,tN]))))
 rintro ⟨i,as',cur,m⟩ ⟨h1,h2,h3⟩
 simp only at h1 h2 h3 ⊢
 push_cast [-List.reduceReplicate,iO,tN]
 by_cases hlt:i < p.size
 case neg =>
  have hal:altsM p=some (as'++[cur]):=by rw [h2,altGo,dif_pos (by omega)]
  have hR:rparseR p = .two (.c (.sl 1 (altsR (as'++[cur])))) (.c (.v (.bool true))):=by unfold rparseR;rw [hal,htx];simp
  refine pwp_weak (weak_frz 1 (by omega)) ?_
  push_cast [-List.reduceReplicate,iO,tN]
  refine pwp_weak (weak_frzbox 4 (k:=0) (n:=as'.length+1) (ds:=(as'++[cur]).map fun a=>D.sl 130 (a.map El.r)) (by omega) (by rfl) (by rfl) (nest_toDs _ _ _) (by simp)) ?_
  push_cast [-List.reduceReplicate,iO,tN]
  repeat' (first|((first|refine pC ?_|refine pQC ?_|refine pU ?_);push_cast [-List.reduceReplicate,iO,tN])|(refine pif (fun h=>?_) (fun h=>?_)<;>first|exact pN h|push_cast [-List.reduceReplicate,iO,tN]))
  (refine retK_of [] ?_;push_cast [-List.reduceReplicate,iO,tN,hR])
  simp [altsR]
 obtain ⟨b,hbe⟩:∃ b,byt p i=b:=⟨_,rfl⟩
 have hb1:b.toNat≤126:=by rw [← hbe];exact UInt8.le_iff_toNat_le.1 (hb i)
 have hb0:32≤b.toNat:=by rw [← hbe];exact hlo i hlt
 have hg:p.data.toList.getD i 0=b:=hbe
 by_cases h124:b=124
 case pos =>
  refine pwp_weak (weak_frz 1 (by omega)) ?_
  push_cast [-List.reduceReplicate,iO,tN]
  repeat' (first|(fail)|((first|refine pC ?_|refine pQC ?_|refine pU ?_);push_cast [-List.reduceReplicate,iO,tN,hg,h124])|(refine pif (fun h=>?_) (fun h=>?_)<;>first|exact pN h|push_cast [-List.reduceReplicate,iO,tN,hg,h124]))
  have hnl:as'.length+1≤(nestE 130 El.r as' (E.sl 130 (cur.map El.r)) m).length:=by rw [nest_len];omega
  refine pl_appbox 0 (by':=24) (z0:=.v (.slice none 0 0)) (d:=.v (.slice none 0 0)) rfl rfl (by push_cast [-List.reduceReplicate,iO,tN]) rfl (by kernel_rfl) (by kernel_rfl) rfl rfl hnl (by omega) (Nat.le_refl _) rfl (by omega) (by omega) ?_
  intro m'
  push_cast [-List.reduceReplicate,iO,tN]
  refine pl_of_pops ?_
  push_cast [-List.reduceReplicate,iO,tN]
  obtain ⟨as2,has2⟩:∃ as2,as'++[cur]=as2:=⟨_,rfl⟩
  have hal:as'.length+1=as2.length:=by rw [← has2];simp
  rw [has2]
  repeat' (first|((first|refine pC ?_|refine pQC ?_|refine pU ?_);push_cast [-List.reduceReplicate,iO,tN])|(refine pif (fun h=>?_) (fun h=>?_)<;>first|exact pN h|push_cast [-List.reduceReplicate,iO,tN]))
  refine ⟨(i+1,as2,[],m'),⟨by simp only;omega,by simp only;rw [h2,altGo,dif_neg (by omega),if_pos (by rw [hbe,h124]),has2],by simp only [List.length_nil];omega⟩,(weak_adopt_box 0 as2.length 135 130 (by decide) _ _ (by rfl) (nest_get _ _ _)).trans ?_,by simp only;omega⟩
  (refine weak_keep true [0,3] ?_;push_cast [-List.reduceReplicate,iO,tN,hal])
 by_cases h42:b=42
 case pos =>
  have hR:altGo p i as' cur=altGo p (i+1) as' (cur++[starEl]):=by rw [altGo,dif_neg (by omega),hbe,if_neg h124,if_pos h42]
  repeat' (first|((refine pwp_cut 11 [23] ?_;apply pwp_drawn_to;(focus kernel_rfl);(focus (simp only [List.length_cons,List.length_nil,Nat.reduceAdd];(repeat' first|((first|refine pah 0 ?_|refine pah 1 ?_|refine pah 2 ?_|refine pah 3 ?_|refine pah 4 ?_|refine pah 9 ?_);push_cast [-List.reduceReplicate,iO,tN,hg,h42])|(refine pad ?_;first|with_reducible exact weak_cutS 11 [23] _|(refine weak_fg ?_;push_cast [-List.reduceReplicate,iO,tN,hg,h42]))|((first|refine pas [5] ?_|refine pas [6] ?_|refine pas [7] ?_|refine pas [8] ?_|refine pas [10] ?_);push_cast [-List.reduceReplicate,iO,tN,hg,h42])|((first|refine pas [5,6] ?_|refine pas [5,7] ?_);push_cast [-List.reduceReplicate,iO,tN,hg,h42];refine ⟨?_,?_⟩));done));push_cast [-List.reduceReplicate,iO,tN,hg,h42]))|((first|refine pC ?_|refine pQC ?_|refine pU ?_);push_cast [-List.reduceReplicate,iO,tN,hg,h42])|(refine pif (fun h=>?_) (fun h=>?_)<;>first|exact pN h|push_cast [-List.reduceReplicate,iO,tN,hg,h42]))
  exact ⟨(i+1,as',cur++[starEl],m),⟨by simp only;omega,by simp only;rw [h2,hR],by simp only [List.length_append,List.length_cons,List.length_nil];omega⟩,by (refine weak_fg ?_;push_cast [-List.reduceReplicate,iO,tN,r_star]),by simp only;omega⟩
 by_cases h63:b=63
 case pos =>
  have hR:altGo p i as' cur=altGo p (i+1) as' (cur++[askEl]):=by rw [altGo,dif_neg (by omega),hbe,if_neg h124,if_neg h42,if_pos h63]
  have hra:El.r askEl=D.v (.bool false) :: D.v (.bool false) :: (everyL++[false]).map boolD:=r_set _ _ _ rfl
  obtain ⟨c0,hc0⟩:∃ c0,noneS++[false]=c0:=⟨_,rfl⟩
  have hc1:c0.length=128:=by rw [← hc0];rfl
  repeat' (first|((first|refine pC ?_|refine pQC ?_|refine pU ?_);push_cast [-List.reduceReplicate,iO,tN,hg,h63])|(refine pif (fun h=>?_) (fun h=>?_)<;>first|exact pN h|push_cast [-List.reduceReplicate,iO,tN,hg,h63]))
  rw [z130,show List.replicate 128 false=c0 by rw [← hc0];rfl]
  (apply pwp_loop3 (α:=Nat) 11 [23] (fun k=>[(7,.c (.v (.int .i64 (32+k))))]) (fun k=>[(2,.box 135 (elC (fillN c0 32 k)))]) (fun k=>k≤95) (fun k=>95 - k) (0);(focus ((try push_cast [-List.reduceReplicate,iO,tN]);rfl));(focus exact (by omega));(focus ((refine weak_fg ?_;try push_cast [-List.reduceReplicate,iO,tN]);(try (exact leEs_refl _)))))
  intro k hk
  push_cast [-List.reduceReplicate,iO,tN]
  have hlen:(fillN c0 32 k).length=128:=by rw [fillN_len,hc1]
  by_cases hlt2:k < 95
  ·have hput:List.take (2+(32+k)) (E.v (.bool false) :: E.v (.bool false) :: (fillN c0 32 k).map boolE)++E.v (.bool true) :: List.drop (2+(32+k)) (E.v (.bool false) :: (fillN c0 32 k).map boolE)=elC (fillN c0 32 (k+1)):=by
    have h:=two_put (E.v (.bool false)) (E.v (.bool false)) ((fillN c0 32 k).map boolE) (32+k) (E.v (.bool true)) (by rw [List.length_map,hlen];omega)
    rw [List.drop_succ_cons] at h
    rw [h,fillN]
    show _=E.v (.bool false) :: E.v (.bool false) :: ((fillN c0 32 k).set (32+k) true).map boolE
    rw [List.map_set]
   repeat' (first|((first|refine pC ?_|refine pQC ?_|refine pU ?_);push_cast [-List.reduceReplicate,iO,tN,hlen,hput])|(refine pif (fun h=>?_) (fun h=>?_)<;>first|exact pN h|push_cast [-List.reduceReplicate,iO,tN,hlen,hput]))
   have hk3:(32+(k:Int)+1)=32+((k:Int)+1):=by omega
   exact ⟨k+1,by omega,by (refine weak_fg ?_;push_cast [-List.reduceReplicate,iO,tN,hk3]),by omega⟩
  ·have hk2:k=95:=by omega
   have hfe:fillN c0 32 k=everyL++[false]:=by rw [hk2,← hc0];exact every_app
   obtain ⟨ev,hev2⟩:∃ ev,everyL++[false]=ev:=⟨_,rfl⟩
   rw [hev2] at hfe hra
   have hevl:ev.length=128:=by rw [← hfe,hlen]
   rw [hfe]
   repeat' (first|((refine pwp_cut 11 [23] ?_;apply pwp_drawn_to;(focus kernel_rfl);(focus (simp only [List.length_cons,List.length_nil,Nat.reduceAdd];(repeat' first|((first|refine pah 0 ?_|refine pah 1 ?_|refine pah 2 ?_|refine pah 3 ?_|refine pah 4 ?_|refine pah 9 ?_);push_cast [-List.reduceReplicate,iO,tN,hevl])|(refine pad ?_;first|with_reducible exact weak_cutS 11 [23] _|(refine weak_fg ?_;push_cast [-List.reduceReplicate,iO,tN,hevl]))|((first|refine pas [5] ?_|refine pas [6] ?_|refine pas [7] ?_|refine pas [8] ?_|refine pas [10] ?_);push_cast [-List.reduceReplicate,iO,tN,hevl])|((first|refine pas [5,6] ?_|refine pas [5,7] ?_);push_cast [-List.reduceReplicate,iO,tN,hevl];refine ⟨?_,?_⟩));done));push_cast [-List.reduceReplicate,iO,tN,hevl]))|((first|refine pC ?_|refine pQC ?_|refine pU ?_);push_cast [-List.reduceReplicate,iO,tN,hevl])|(refine pif (fun h=>?_) (fun h=>?_)<;>first|exact pN h|push_cast [-List.reduceReplicate,iO,tN,hevl]))
   exact ⟨(i+1,as',cur++[askEl],m),⟨by simp only;omega,by simp only;rw [h2,hR],by simp only [List.length_append,List.length_cons,List.length_nil];omega⟩,by (refine weak_fg ?_;push_cast [-List.reduceReplicate,iO,tN,hra]),by simp only;omega⟩
 by_cases h91:b=91
 case pos =>
  have hs1:=gset_pure p (i+1) (by omega) hp hb hlo
  cases hq:bsetM p (i+1) with
  | none =>
   have hal:altsM p=none:=by rw [h2,altGo_none hlt (hbe.trans h91) hq]
   have hR:rparseR p = .two (.c (.v (.slice none 0 0))) (.c (.v (.bool false))):=by unfold rparseR;rw [hal];simp
   rw [hq] at hs1
   repeat' (first|((refine plc [2] (hs1) ?_ ?_;push_cast [-List.reduceReplicate,iO,tN,hg,h91,z130];rintro r os ⟨rfl,rfl⟩;push_cast [-List.reduceReplicate,iO,tN,hg,h91,z130]))|((first|refine pC ?_|refine pQC ?_|refine pU ?_);push_cast [-List.reduceReplicate,iO,tN,hg,h91,z130])|(refine pif (fun h=>?_) (fun h=>?_)<;>first|exact pN h|push_cast [-List.reduceReplicate,iO,tN,hg,h91,z130]))
   (refine retK_of [] ?_;push_cast [-List.reduceReplicate,iO,tN,hR])
  | some q =>
   have hgt:=bsetM_gt hq
   have hR:altGo p i as' cur=altGo p q.2 as' (cur++[⟨0,false,q.1⟩]):=altGo_some hlt (hbe.trans h91) hq
   have hra:El.r ⟨0,false,q.1⟩=D.v (.bool false) :: D.v (.bool false) :: (q.1++[false]).map boolD:=r_set _ _ _ rfl
   rw [hq] at hs1
   simp only at hs1
   obtain ⟨ev,hev2⟩:∃ ev,q.1++[false]=ev:=⟨_,rfl⟩
   rw [hev2] at hra hs1
   have hqq:(q.2:Int) - 1+1=(q.2:Int):=by omega
   have hevl:ev.length=128:=by rw [← hev2,List.length_append,hgt.2.2];rfl
   repeat' (first|((refine plc [2] (hs1) ?_ ?_;push_cast [-List.reduceReplicate,iO,tN,hg,h91,z130,hevl,hqq];rintro r os ⟨rfl,rfl⟩;push_cast [-List.reduceReplicate,iO,tN,hg,h91,z130,hevl,hqq]))|((refine pwp_cut 11 [23] ?_;apply pwp_drawn_to;(focus kernel_rfl);(focus (simp only [List.length_cons,List.length_nil,Nat.reduceAdd];(repeat' first|((first|refine pah 0 ?_|refine pah 1 ?_|refine pah 2 ?_|refine pah 3 ?_|refine pah 4 ?_|refine pah 9 ?_);push_cast [-List.reduceReplicate,iO,tN,hg,h91,z130,hevl,hqq])|(refine pad ?_;first|with_reducible exact weak_cutS 11 [23] _|(refine weak_fg ?_;push_cast [-List.reduceReplicate,iO,tN,hg,h91,z130,hevl,hqq]))|((first|refine pas [5] ?_|refine pas [6] ?_|refine pas [7] ?_|refine pas [8] ?_|refine pas [10] ?_);push_cast [-List.reduceReplicate,iO,tN,hg,h91,z130,hevl,hqq])|((first|refine pas [5,6] ?_|refine pas [5,7] ?_);push_cast [-List.reduceReplicate,iO,tN,hg,h91,z130,hevl,hqq];refine ⟨?_,?_⟩));done));push_cast [-List.reduceReplicate,iO,tN,hg,h91,z130,hevl,hqq]))|((first|refine pC ?_|refine pQC ?_|refine pU ?_);push_cast [-List.reduceReplicate,iO,tN,hg,h91,z130,hevl,hqq])|(refine pif (fun h=>?_) (fun h=>?_)<;>first|exact pN h|push_cast [-List.reduceReplicate,iO,tN,hg,h91,z130,hevl,hqq]))
   exact ⟨(q.2,as',cur++[⟨0,false,q.1⟩],m),⟨by simp only;omega,by simp only;rw [h2,hR],by simp only [List.length_append,List.length_cons,List.length_nil];omega⟩,by (refine weak_fg ?_;push_cast [-List.reduceReplicate,iO,tN,hra]),by simp only;omega⟩
 have hR:altGo p i as' cur=altGo p (i+1) as' (cur++[litEl b]):=by rw [altGo,dif_neg (by omega),hbe,if_neg h124,if_neg h42,if_neg h63,if_neg h91]
 have n124:¬ b.toNat=124:=fun e=>h124 (UInt8.toNat_inj.1 e)
 have n42:¬ b.toNat=42:=fun e=>h42 (UInt8.toNat_inj.1 e)
 have n63:¬ b.toNat=63:=fun e=>h63 (UInt8.toNat_inj.1 e)
 have n91:¬ b.toNat=91:=fun e=>h91 (UInt8.toNat_inj.1 e)
 obtain ⟨sb,hsb⟩:∃ sb,noneS.set b.toNat true++[false]=sb:=⟨_,rfl⟩
 have hsl:sb.length=128:=by rw [← hsb,List.length_append,List.length_set];rfl
 have hra:El.r (litEl b)=D.v (.bool false) :: D.v (.bool true) :: sb.map boolD:=by rw [← hsb];exact r_set _ _ _ (decide_eq_true (by omega))
 have hput:List.take (2+b.toNat) (E.v (.bool false) :: E.v (.bool true) :: List.replicate 128 (E.v (.bool false)))++E.v (.bool true) :: List.drop (2+b.toNat) (E.v (.bool true) :: List.replicate 128 (E.v (.bool false)))=E.v (.bool false) :: E.v (.bool true) :: sb.map fun x=>E.v (.bool x):=by
  have h:=two_put (E.v (.bool false)) (E.v (.bool true)) (List.replicate 128 (E.v (.bool false))) b.toNat (E.v (.bool true)) (by rw [List.length_replicate];omega)
  rw [show 2+b.toNat+1=(2+b.toNat)+1 from rfl,List.drop_succ_cons] at h
  have h2:(List.replicate 128 (E.v (.bool false))).set b.toNat (E.v (.bool true))=sb.map fun x=>E.v (.bool x):=by
   rw [← hsb,List.map_append,List.map_set,← List.set_append_left _ _ (by rw [List.length_map,show noneS.length=127 from List.length_replicate];omega)]
   rw [show noneS.map (fun x=>E.v (.bool x))=List.replicate 127 (E.v (.bool false)) from noneS_rep]
   rfl
  rw [h,h2]
 have ht1:List.take 1 (List.replicate 130 (E.v (.bool false)))=[E.v (.bool false)]:=rfl
 repeat' (first|((refine pwp_cut 11 [23] ?_;apply pwp_drawn_to;(focus kernel_rfl);(focus (simp only [List.length_cons,List.length_nil,Nat.reduceAdd];(repeat' first|((first|refine pah 0 ?_|refine pah 1 ?_|refine pah 2 ?_|refine pah 3 ?_|refine pah 4 ?_|refine pah 9 ?_);push_cast [-List.reduceReplicate,iO,tN,hg,hsl,hput,ht1])|(refine pad ?_;first|with_reducible exact weak_cutS 11 [23] _|(refine weak_fg ?_;push_cast [-List.reduceReplicate,iO,tN,hg,hsl,hput,ht1]))|((first|refine pas [5] ?_|refine pas [6] ?_|refine pas [7] ?_|refine pas [8] ?_|refine pas [10] ?_);push_cast [-List.reduceReplicate,iO,tN,hg,hsl,hput,ht1])|((first|refine pas [5,6] ?_|refine pas [5,7] ?_);push_cast [-List.reduceReplicate,iO,tN,hg,hsl,hput,ht1];refine ⟨?_,?_⟩));done));push_cast [-List.reduceReplicate,iO,tN,hg,hsl,hput,ht1]))|((refine pwp_cut 11 [23] ?_;apply pwp_drawn_to;(focus kernel_rfl);(focus (simp only [List.length_cons,List.length_nil,Nat.reduceAdd];(repeat' first|((first|refine pah 0 ?_|refine pah 1 ?_|refine pah 2 ?_|refine pah 3 ?_|refine pah 5 ?_|refine pah 6 ?_);push_cast [-List.reduceReplicate,iO,tN,hg,hsl,hput,ht1])|(refine pad ?_;first|with_reducible exact weak_cutS 11 [23] _|(refine weak_fg ?_;push_cast [-List.reduceReplicate,iO,tN,hg,hsl,hput,ht1]))|((first|refine pas [4] ?_|refine pas [7] ?_);push_cast [-List.reduceReplicate,iO,tN,hg,hsl,hput,ht1]));done));push_cast [-List.reduceReplicate,iO,tN,hg,hsl,hput,ht1]))|((first|refine pC ?_|refine pQC ?_|refine pU ?_);push_cast [-List.reduceReplicate,iO,tN,hg,hsl,hput,ht1])|(refine pif (fun h=>?_) (fun h=>?_)<;>first|exact pN h|push_cast [-List.reduceReplicate,iO,tN,hg,hsl,hput,ht1]))
 exact ⟨(i+1,as',cur++[litEl b],m),⟨by simp only;omega,by simp only;rw [h2,hR],by simp only [List.length_append,List.length_cons,List.length_nil];omega⟩,by (refine weak_fg ?_;push_cast [-List.reduceReplicate,iO,tN,hra]),by simp only;omega⟩
set_option maxHeartbeats 1000000 in
theorem gcheck_pure (p:ByteArray) (hp:p.size≤9223372036854775807):PCalls Tryz.prog 27 [.c (.v (.string p))] [] fun r os=>r = .c (.v (.int .i64 (globM p)))∧os=[]:=by
 refine pcalls_of Tryz.func27 rfl (by simp [Tryz.ntmps27]) ?_
 rw [Tryz.ntmps27,Tryz.results27]
 push_cast [-List.reduceReplicate,iO,tN]
 by_cases h1:256 < p.size
 ·have hR:globM p=21:=by unfold globM;rw [if_pos h1]
  have h1':(256:Int) < (p.size:Int):=by omega
  repeat' (first|((first|refine pG ?_|refine pQ ?_|refine pU ?_);push_cast [-List.reduceReplicate,iO,tN,h1'])|(refine pif (fun h=>?_) (fun h=>?_)<;>first|exact pN h|push_cast [-List.reduceReplicate,iO,tN,h1']))
  (refine retK_of [] ?_;push_cast [-List.reduceReplicate,iO,tN,hR])
 have h1':¬ (256:Int) < (p.size:Int):=by omega
 have hq:=rparse_pure p (by omega)
 unfold rparseR at hq
 by_cases h2:p.data.toList.all textB=true∧(altsM p).isSome=true
 ·have hR:globM p=0:=by
   obtain ⟨l,hl⟩:=Option.isSome_iff_exists.1 h2.2
   unfold globM;rw [if_neg h1,if_neg (by rw [h2.1];simp),hl]
  rw [if_pos h2,h2.1,h2.2] at hq
  repeat' (first|((refine plc [] (hq) ?_ ?_;push_cast [-List.reduceReplicate,iO,tN,h1'];rintro r os ⟨rfl,rfl⟩;push_cast [-List.reduceReplicate,iO,tN,h1']))|((first|refine pG ?_|refine pQ ?_|refine pU ?_);push_cast [-List.reduceReplicate,iO,tN,h1'])|(refine pif (fun h=>?_) (fun h=>?_)<;>first|exact pN h|push_cast [-List.reduceReplicate,iO,tN,h1']))
  (refine retK_of [] ?_;push_cast [-List.reduceReplicate,iO,tN,hR])
 ·have hb:(p.data.toList.all textB && (altsM p).isSome)=false:=by rw [Bool.and_eq_false_iff];by_cases h:p.data.toList.all textB=true;exact .inr (Bool.eq_false_iff.2 fun e=>h2 ⟨h,e⟩);exact .inl (Bool.eq_false_iff.2 h)
  have hR:globM p=20:=by
   unfold globM
   rw [if_neg h1]
   by_cases h:p.data.toList.all textB=true
   ·rw [if_neg (by rw [h];simp)]
    cases hl:altsM p with
    | none=>rfl
    | some l=>exact absurd ⟨h,by rw [hl];rfl⟩ h2
   ·rw [if_pos (by rw [Bool.eq_false_iff.2 h];rfl)]
  rw [if_neg h2,hb] at hq
  repeat' (first|((refine plc [] (hq) ?_ ?_;push_cast [-List.reduceReplicate,iO,tN,h1'];rintro r os ⟨rfl,rfl⟩;push_cast [-List.reduceReplicate,iO,tN,h1']))|((first|refine pG ?_|refine pQ ?_|refine pU ?_);push_cast [-List.reduceReplicate,iO,tN,h1'])|(refine pif (fun h=>?_) (fun h=>?_)<;>first|exact pN h|push_cast [-List.reduceReplicate,iO,tN,h1']))
  (refine retK_of [] ?_;push_cast [-List.reduceReplicate,iO,tN,hR])
end Go.Proofs.YthhfpcbpiphfiaaGreatDoor
