/- What the program computes, and the plain laws of it, part 42. -/
import Derived.WideKeyEntry
import Derived.Lib.ItoaNum
import Derived.Test.YtmbbkfffcflfcaaGreatDoorS41
namespace Go.Proofs.YtmbbkfffcflfcaaGreatDoor
attribute [local irreducible] PL QL PWPr PCalls Weak RetK Kontr PA
open Go.RowKit
open IntWalk renaming iteOmega → O, toNatUp → U
set_option linter.unusedVariables false
set_option linter.unusedSimpArgs false
set_option maxRecDepth 20000
def zeroD:Dev:=⟨0,0,⟨#[]⟩,⟨#[]⟩,⟨#[]⟩,⟨#[]⟩,⟨#[]⟩,0,0,[]⟩
attribute [push_cast] zeroD
theorem zeroD_ok:zeroD.ok:=⟨by decide,by decide,by decide,by decide,by decide,(fun a ha=>by cases ha),by decide,by decide⟩
theorem oprZ {kd:Int} {p n v:ByteArray} (hp:p.size≤1001000) (hn:n.size≤100) (hv:v.size≤100):OprOk ⟨kd,p,zeroD,n,v⟩ :=
 ⟨zeroD_ok,Nat.zero_le _,fit_of hp (by decide),fit_of hn (by decide),fit_of hv (by decide)⟩
theorem sz100 {l:List ByteArray} {s:ByteArray} (h:l.all (fun s=>decide (s.size≤100))=true) (hm:s ∈ l):s.size≤100:=by
 have:=List.all_eq_true.1 h s hm
 simpa using this
set_option maxHeartbeats 32000000 in
theorem wop_ex (L:List Int) (k:Nat) (l:List Dev) (hk:k < 80000) (hl:l.length≤256) (hz:∀ d ∈ l,d.original.size≤1000) (hi:∀ d ∈ l,d.index≤90000) (hi0:∀ d ∈ l,0≤d.index) (hL:∀ x ∈ L,-9223372036854775808≤x∧x≤9223372036854775807) (hLl:L.length≤9223372036854775807) :
  PCalls Tryz.prog 19 [.c (.ptr 0 0),.agg (trE l)] [tape L k] fun r os=>∃ (o:Opr) (k':Nat),OprOk o∧k'≤k+40∧r = .agg o.e∧os=[tape L k']:=by
 refine pcalls_of Tryz.func19 rfl (by simp [Tryz.ntmps19]) ?_
 rw [Tryz.ntmps19,Tryz.results19]
 have hsm:=wsome_ex L k l (by omega) (by omega) hL hLl
 have hpl:=fun n=>rplace_pure l n (by omega) hz
 have hps:=fun n=>place_size (show l.length≤1000 by omega) hz n
 have nex:=fun (j:Nat) (hj:j < 1000000) (m:Int) (hm:0 < m) (hm2:m≤9223372036854775807)=>next_ex L j m hj hm hm2 hL hLl
 have one:=fun (j:Nat) (hj:j < 1000000) (t:List ByteArray) (h0:0 < t.length) (h1:t.length≤1000000)=>one_ex L j t hj h0 h1 hL hLl
 push_cast [O,U]
 have cB:CutB 8 [14,15,29,33,43,50,54,83,90,94]:=trivial
 repeat' ((first|(refine hidR 1 ?_)|refine pC ?_|refine pQC ?_|refine pU ?_|refine pif ?_ ?_<;>intro h<;>try exact pN h)<;>push_cast [O,U])
 refine unhid ?_
 (refine pwp_cut 8 [14,15,29,33,43,50,54,83,90,94] ?_;apply pwp_drawn_ex (α:=ByteArray × Nat) 8 [14,15,29,33,43,50,54,83,90,94] (fun x=>[(5,.c (.v (.string x.1)))]) (fun x=>[(0,tape L x.2)]) (fun x=>x.1.size≤1001000∧x.2≤k+2) ((⟨#[]⟩,0));(focus ((try push_cast [O,U]);rfl));(focus kernel_rfl);(focus (simp only [List.length_cons,List.length_nil,Nat.reduceAdd];(repeat' first|((refine plc [0] (hsm) ?_ ?_;push_cast [O,U];rintro r os ⟨v,q,hq,rfl,rfl⟩;push_cast [O,U]))|((refine plE [] ((hpl v)) ?_ ?_;(focus (push_cast [O,U];done));push_cast [O,U]))|((first|refine pah 1 ?_|refine pah 5 ?_);push_cast [O,U])|(refine pad ?_;try push_cast [O,U])|((first|refine pas [0] ?_|refine pas [2] ?_|refine pas [3] ?_|refine pas [4] ?_);push_cast [O,U])|((first|refine pas [0,2] ?_|refine pas [0,3] ?_|refine pas [0,4] ?_|refine pas [2,3] ?_|refine pas [2,4] ?_|refine pas [3,4] ?_);push_cast [O,U];refine ⟨?_,?_⟩)|((first|refine pas [0,2,3] ?_|refine pas [0,2,4] ?_|refine pas [0,3,4] ?_|refine pas [2,3,4] ?_);push_cast [O,U];refine ⟨?_,?_,?_⟩));all_goals (exact ⟨(placeM l v,q),⟨hps _,hq⟩,by (refine weak_fg ?_;push_cast [O,U])⟩))))
 rintro ⟨p,q⟩ ⟨hp,hq⟩
 simp only at hp hq
 push_cast [O,U]
 repeat' ((first|refine pC ?_|refine pQC ?_|refine pU ?_|refine pif ?_ ?_<;>intro h<;>try exact pN h)<;>push_cast [O,U])
 have hn1:=nex q (by omega) 14 (by decide) (by decide)
 (refine plc [0] (hn1) ?_ ?_;push_cast [O,U];rintro r os ⟨v,⟨va,vb⟩,rfl,rfl⟩;push_cast [O,U])
 have hdv:=wdev_ex L (q+1) l 90000 (by omega) (by omega) (by omega) hi hi0 hL hLl
 refine pif (fun h0=>?_) (fun h0=>?_)
 ·push_cast [O,U]
  repeat' ((first|(refine plc [0] (hdv) ?_ ?_;push_cast [O,U];rintro r os ⟨d,q2,⟨hd,hd1,hd2⟩,hq2,rfl,rfl⟩)|(refine hidR 8 ?_)|refine pC ?_|refine pQC ?_|refine pU ?_|refine pif ?_ ?_<;>intro h<;>try exact pN h)<;>push_cast [O,U])
  refine unhid ?_
  (refine pwp_cut 8 [14,15,29,33,43,50,54,83,90,94] ?_;apply pwp_drawn_to;(focus kernel_rfl);(focus (simp only [List.length_cons,List.length_nil,Nat.reduceAdd];(repeat' first|((refine plE [] ((hpl d.parent)) ?_ ?_<;>push_cast [O,U]))|((first|refine pah 1 ?_|refine pah 5 ?_);push_cast [O,U])|(refine pad ?_;first|with_reducible exact weak_cutS 8 [14,15,29,33,43,50,54,83,90,94] _|(refine weak_fg ?_;push_cast [O,U]))|((first|refine pas [0] ?_|refine pas [2] ?_|refine pas [3] ?_|refine pas [4] ?_|refine pas [6] ?_);push_cast [O,U])|((first|refine pas [0,2] ?_|refine pas [0,4] ?_|refine pas [2,4] ?_|refine pas [3,4] ?_);push_cast [O,U];refine ⟨?_,?_⟩)|((first|refine pas [0,2,4] ?_);push_cast [O,U];refine ⟨?_,?_,?_⟩));done));push_cast [O,U])
  (refine retK_of [0] ?_;push_cast [O,U])
  exact ⟨.agg (Opr.e ⟨1,placeM l d.parent,d,⟨#[]⟩,⟨#[]⟩⟩),[tape L q2],by push_cast [O,U],by push_cast [O,U],⟨1,placeM l d.parent,d,⟨#[]⟩,⟨#[]⟩⟩,q2,⟨hd.ok,Nat.le_trans hd.att (by decide),fit_of (hps _) (by decide),fit_of (Nat.zero_le 100) (by decide),fit_of (Nat.zero_le 100) (by decide)⟩,by omega,rfl,rfl⟩
 push_cast [O,U]
 refine pif (fun h1=>?_) (fun h1=>?_)
 ·push_cast [O,U]
  repeat' ((first|(refine plc [0] (hdv) ?_ ?_;push_cast [O,U];rintro r os ⟨d,q2,⟨hd,hd1,hd2⟩,hq2,rfl,rfl⟩)|(refine hidR 8 ?_)|refine pC ?_|refine pQC ?_|refine pU ?_|refine pif ?_ ?_<;>intro h<;>try exact pN h)<;>push_cast [O,U])
  refine unhid ?_
  (refine pwp_cut 8 [14,15,29,33,43,50,54,83,90,94] ?_;apply pwp_drawn_to;(focus kernel_rfl);(focus (simp only [List.length_cons,List.length_nil,Nat.reduceAdd];(repeat' first|((refine plE [] ((hpl d.parent)) ?_ ?_<;>push_cast [O,U]))|((first|refine pah 1 ?_|refine pah 5 ?_);push_cast [O,U])|(refine pad ?_;first|with_reducible exact weak_cutS 8 [14,15,29,33,43,50,54,83,90,94] _|(refine weak_fg ?_;push_cast [O,U]))|((first|refine pas [0] ?_|refine pas [2] ?_|refine pas [3] ?_|refine pas [4] ?_|refine pas [6] ?_);push_cast [O,U])|((first|refine pas [0,2] ?_|refine pas [0,4] ?_|refine pas [2,4] ?_|refine pas [3,4] ?_);push_cast [O,U];refine ⟨?_,?_⟩)|((first|refine pas [0,2,4] ?_);push_cast [O,U];refine ⟨?_,?_,?_⟩));done));push_cast [O,U])
  (refine retK_of [0] ?_;push_cast [O,U])
  exact ⟨.agg (Opr.e ⟨1,placeM l d.parent,d,⟨#[]⟩,⟨#[]⟩⟩),[tape L q2],by push_cast [O,U],by push_cast [O,U],⟨1,placeM l d.parent,d,⟨#[]⟩,⟨#[]⟩⟩,q2,⟨hd.ok,Nat.le_trans hd.att (by decide),fit_of (hps _) (by decide),fit_of (Nat.zero_le 100) (by decide),fit_of (Nat.zero_le 100) (by decide)⟩,by omega,rfl,rfl⟩
 push_cast [O,U]
 refine pif (fun h2=>?_) (fun h2=>?_)
 ·push_cast [O,U]
  repeat' ((first|(refine plc [0] (hdv) ?_ ?_;push_cast [O,U];rintro r os ⟨d,q2,⟨hd,hd1,hd2⟩,hq2,rfl,rfl⟩)|(refine hidR 8 ?_)|refine pC ?_|refine pQC ?_|refine pU ?_|refine pif ?_ ?_<;>intro h<;>try exact pN h)<;>push_cast [O,U])
  refine unhid ?_
  (refine pwp_cut 8 [14,15,29,33,43,50,54,83,90,94] ?_;apply pwp_drawn_to;(focus kernel_rfl);(focus (simp only [List.length_cons,List.length_nil,Nat.reduceAdd];(repeat' first|((refine plE [] ((hpl d.parent)) ?_ ?_<;>push_cast [O,U]))|((first|refine pah 1 ?_|refine pah 5 ?_);push_cast [O,U])|(refine pad ?_;first|with_reducible exact weak_cutS 8 [14,15,29,33,43,50,54,83,90,94] _|(refine weak_fg ?_;push_cast [O,U]))|((first|refine pas [0] ?_|refine pas [2] ?_|refine pas [3] ?_|refine pas [4] ?_|refine pas [6] ?_);push_cast [O,U])|((first|refine pas [0,2] ?_|refine pas [0,4] ?_|refine pas [2,4] ?_|refine pas [3,4] ?_);push_cast [O,U];refine ⟨?_,?_⟩)|((first|refine pas [0,2,4] ?_);push_cast [O,U];refine ⟨?_,?_,?_⟩));done));push_cast [O,U])
  (refine retK_of [0] ?_;push_cast [O,U])
  exact ⟨.agg (Opr.e ⟨1,placeM l d.parent,d,⟨#[]⟩,⟨#[]⟩⟩),[tape L q2],by push_cast [O,U],by push_cast [O,U],⟨1,placeM l d.parent,d,⟨#[]⟩,⟨#[]⟩⟩,q2,⟨hd.ok,Nat.le_trans hd.att (by decide),fit_of (hps _) (by decide),fit_of (Nat.zero_le 100) (by decide),fit_of (Nat.zero_le 100) (by decide)⟩,by omega,rfl,rfl⟩
 push_cast [O,U]
 refine pif (fun h3=>?_) (fun h3=>?_)
 ·push_cast [O,U]
  repeat' ((first|(refine plc [0] (hdv) ?_ ?_;push_cast [O,U];rintro r os ⟨d,q2,⟨hd,hd1,hd2⟩,hq2,rfl,rfl⟩)|(refine hidR 8 ?_)|refine pC ?_|refine pQC ?_|refine pU ?_|refine pif ?_ ?_<;>intro h<;>try exact pN h)<;>push_cast [O,U])
  refine unhid ?_
  (refine pwp_cut 8 [14,15,29,33,43,50,54,83,90,94] ?_;apply pwp_drawn_to;(focus kernel_rfl);(focus (simp only [List.length_cons,List.length_nil,Nat.reduceAdd];(repeat' first|((refine plE [] ((hpl d.parent)) ?_ ?_<;>push_cast [O,U]))|((first|refine pah 1 ?_|refine pah 5 ?_);push_cast [O,U])|(refine pad ?_;first|with_reducible exact weak_cutS 8 [14,15,29,33,43,50,54,83,90,94] _|(refine weak_fg ?_;push_cast [O,U]))|((first|refine pas [0] ?_|refine pas [2] ?_|refine pas [3] ?_|refine pas [4] ?_|refine pas [6] ?_);push_cast [O,U])|((first|refine pas [0,2] ?_|refine pas [0,4] ?_|refine pas [2,4] ?_|refine pas [3,4] ?_);push_cast [O,U];refine ⟨?_,?_⟩)|((first|refine pas [0,2,4] ?_);push_cast [O,U];refine ⟨?_,?_,?_⟩));done));push_cast [O,U])
  (refine retK_of [0] ?_;push_cast [O,U])
  exact ⟨.agg (Opr.e ⟨1,placeM l d.parent,d,⟨#[]⟩,⟨#[]⟩⟩),[tape L q2],by push_cast [O,U],by push_cast [O,U],⟨1,placeM l d.parent,d,⟨#[]⟩,⟨#[]⟩⟩,q2,⟨hd.ok,Nat.le_trans hd.att (by decide),fit_of (hps _) (by decide),fit_of (Nat.zero_le 100) (by decide),fit_of (Nat.zero_le 100) (by decide)⟩,by omega,rfl,rfl⟩
 push_cast [O,U]
 have hcs:v=4∨v=5∨v=6∨v=7∨v=8∨v=9∨v=10∨(v=11∨v=12)∨v=13:=by omega
 clear va vb
 rcases hcs with rfl|rfl|rfl|rfl|rfl|rfl|rfl|h|rfl
 ·push_cast [O,U]
  repeat' ((first|refine pC ?_|refine pQC ?_|refine pU ?_|refine pif ?_ ?_<;>intro h<;>try exact pN h)<;>push_cast [O,U])
  (refine retK_of [0] ?_;push_cast [O,U])
  exact ⟨.agg (Opr.e ⟨2,p,zeroD,⟨#[]⟩,⟨#[]⟩⟩),[tape L (q+1)],by push_cast [O,U],by push_cast [O,U],⟨2,p,zeroD,⟨#[]⟩,⟨#[]⟩⟩,q+1,oprZ hp (Nat.zero_le _) (Nat.zero_le _),by omega,rfl,rfl⟩
 ·have o0:=one (q+1) (by omega) [⟨#[115,105,122,101]⟩,⟨#[118,101,110,100,111,114]⟩,⟨#[115,108,111,116]⟩] (by decide) (by decide)
  have o1:=one (q+1+1) (by omega) [⟨#[]⟩,⟨#[49]⟩,⟨#[50]⟩] (by decide) (by decide)
  push_cast [O,U]
  repeat' ((first|(refine plc [0] (o0) ?_ ?_;push_cast [O,U];rintro r os ⟨s0,hs0,rfl,rfl⟩)|(refine plc [0] (o1) ?_ ?_;push_cast [O,U];rintro r os ⟨s1,hs1,rfl,rfl⟩)|refine pC ?_|refine pQC ?_|refine pU ?_|refine pif ?_ ?_<;>intro h<;>try exact pN h)<;>push_cast [O,U])
  (refine retK_of [0] ?_;push_cast [O,U])
  exact ⟨.agg (Opr.e ⟨3,p,zeroD,s0,s1⟩),[tape L (q+1+1+1)],by push_cast [O,U],by push_cast [O,U],⟨3,p,zeroD,s0,s1⟩,q+1+1+1,oprZ hp (sz100 (by decide) hs0) (sz100 (by decide) hs1),by omega,rfl,rfl⟩
 ·push_cast [O,U]
  repeat' ((first|(refine plc [] (wcontents_pure) ?_ ?_;push_cast [O,U];rintro r os ⟨⟨t,ht1,ht2,rfl⟩,rfl⟩)|(refine plc [0] ((one (q+1) (by omega) t (by omega) (by omega))) ?_ ?_;push_cast [O,U];rintro r os ⟨s,hs,rfl,rfl⟩)|refine pC ?_|refine pQC ?_|refine pU ?_|refine pif ?_ ?_<;>intro h<;>try exact pN h)<;>push_cast [O,U])
  (refine retK_of [0] ?_;push_cast [O,U])
  exact ⟨.agg (Opr.e ⟨3,p,zeroD,⟨#[99,111,110,116,101,110,116]⟩,s⟩),[tape L (q+1+1)],by push_cast [O,U],by push_cast [O,U],⟨3,p,zeroD,⟨#[99,111,110,116,101,110,116]⟩,s⟩,q+1+1,oprZ hp (by decide) (ht2 s hs),by omega,rfl,rfl⟩
 ·push_cast [O,U]
  repeat' ((first|refine pC ?_|refine pQC ?_|refine pU ?_|refine pif ?_ ?_<;>intro h<;>try exact pN h)<;>push_cast [O,U])
  (refine retK_of [0] ?_;push_cast [O,U])
  exact ⟨.agg (Opr.e ⟨4,p,zeroD,⟨#[]⟩,⟨#[]⟩⟩),[tape L (q+1)],by push_cast [O,U],by push_cast [O,U],⟨4,p,zeroD,⟨#[]⟩,⟨#[]⟩⟩,q+1,oprZ hp (Nat.zero_le _) (Nat.zero_le _),by omega,rfl,rfl⟩
 ·push_cast [O,U]
  repeat' ((first|refine pC ?_|refine pQC ?_|refine pU ?_|refine pif ?_ ?_<;>intro h<;>try exact pN h)<;>push_cast [O,U])
  (apply pwp_loop3 (α:=Nat × ByteArray) 8 [14,15,29,33,43,50,54,83,90,94] (fun x=>[(7,.c (.v (.int .i64 x.1))),(5,.c (.v (.string x.2)))]) (fun x=>[]) (fun x=>x.1≤l.length∧x.2.size≤1001000) (fun x=>l.length - x.1) ((0,p));(focus ((try push_cast [O,U]);rfl));(focus exact ⟨Nat.zero_le _,hp⟩);(focus ((refine weak_fg ?_;try push_cast [O,U]);(try (rfl)))))
  rintro ⟨i,p2⟩ ⟨hi1,hp2⟩
  simp only at hi1 hp2
  push_cast [O,U]
  by_cases hlt:i < l.length
  ·have hpi:=hpl (l.getD i default).index
   by_cases hk4:(l.getD i default).kind=4
   ·repeat' ((first|(refine pwp_cut 8 [14,15,29,33,43,50,54,83,90,94] ?_;apply pwp_drawn_to;(focus kernel_rfl);(focus (simp only [List.length_cons,List.length_nil,Nat.reduceAdd];(repeat' first|((refine plE [] hpi ?_ ?_<;>push_cast [O,U,  hk4]))|((first|refine pah 1 ?_|refine pah 3 ?_|refine pah 4 ?_|refine pah 5 ?_|refine pah 8 ?_);push_cast [O,U,  hk4])|(refine pad ?_;first|with_reducible exact weak_cutS 8 [14,15,29,33,43,50,54,83,90,94] _|(refine weak_fg ?_;push_cast [O,U,  hk4]))|((first|refine pas [0] ?_|refine pas [2] ?_|refine pas [6] ?_|refine pas [7] ?_);push_cast [O,U,  hk4])|((first|refine pas [0,2] ?_|refine pas [0,6] ?_);push_cast [O,U,  hk4];refine ⟨?_,?_⟩));done));push_cast [O,U,  hk4])|refine pC ?_|refine pQC ?_|refine pU ?_|refine pif ?_ ?_<;>intro h<;>try exact pN h)<;>push_cast [O,U,hk4])
    exact ⟨(i+1,placeM l (l.getD i default).index),⟨by simp only;omega,hps _⟩,by (refine weak_fg ?_;push_cast [O,U]),by simp only;omega⟩
   ·repeat' ((first|refine pC ?_|refine pQC ?_|refine pU ?_|refine pif ?_ ?_<;>intro h<;>try exact pN h)<;>push_cast [O,U,hk4])
    exact ⟨(i+1,p2),⟨by simp only;omega,hp2⟩,by (refine weak_fg ?_;push_cast [O,U]),by simp only;omega⟩
  have o0:=one (q+1) (by omega) [⟨#[101,116,104,48]⟩,⟨#[101,116,104,49]⟩,⟨#[108,97,110,48]⟩,⟨#[108,97,110,49]⟩,⟨#[97,58,98]⟩] (by decide) (by decide)
  push_cast [O,U]
  repeat' ((first|(refine plc [0] (o0) ?_ ?_;push_cast [O,U];rintro r os ⟨s0,hs0,rfl,rfl⟩)|refine pC ?_|refine pQC ?_|refine pU ?_|refine pif ?_ ?_<;>intro h<;>try exact pN h)<;>push_cast [O,U])
  (refine retK_of [0] ?_;push_cast [O,U])
  exact ⟨.agg (Opr.e ⟨5,p2,zeroD,s0,⟨#[]⟩⟩),[tape L (q+1+1)],by push_cast [O,U],by push_cast [O,U],⟨5,p2,zeroD,s0,⟨#[]⟩⟩,q+1+1,oprZ hp2 (sz100 (by decide) hs0) (Nat.zero_le _),by omega,rfl,rfl⟩
 ·have o0:=one (q+1) (by omega) [⟨#[104,105,100]⟩,⟨#[110,105,99]⟩,⟨#[120,32,121]⟩] (by decide) (by decide)
  push_cast [O,U]
  repeat' ((first|(refine plc [0] (o0) ?_ ?_;push_cast [O,U];rintro r os ⟨s0,hs0,rfl,rfl⟩)|refine pC ?_|refine pQC ?_|refine pU ?_|refine pif ?_ ?_<;>intro h<;>try exact pN h)<;>push_cast [O,U])
  (refine retK_of [0] ?_;push_cast [O,U])
  exact ⟨.agg (Opr.e ⟨6,p,zeroD,⟨#[]⟩,s0⟩),[tape L (q+1+1)],by push_cast [O,U],by push_cast [O,U],⟨6,p,zeroD,⟨#[]⟩,s0⟩,q+1+1,oprZ hp (Nat.zero_le _) (sz100 (by decide) hs0),by omega,rfl,rfl⟩
 ·push_cast [O,U]
  repeat' ((first|refine pC ?_|refine pQC ?_|refine pU ?_|refine pif ?_ ?_<;>intro h<;>try exact pN h)<;>push_cast [O,U])
  (refine retK_of [0] ?_;push_cast [O,U])
  exact ⟨.agg (Opr.e ⟨7,p,zeroD,⟨#[]⟩,⟨#[]⟩⟩),[tape L (q+1)],by push_cast [O,U],by push_cast [O,U],⟨7,p,zeroD,⟨#[]⟩,⟨#[]⟩⟩,q+1,oprZ hp (Nat.zero_le _) (Nat.zero_le _),by omega,rfl,rfl⟩
 ·rcases h with rfl|rfl
  all_goals
   have o0:=one (q+1) (by omega) [⟨#[104,105,100]⟩,⟨#[110,105,99]⟩,⟨#[99,111,114,101]⟩,⟨#[101,120,116,114,97]⟩,⟨#[111,116,104,101,114]⟩,⟨#[98,97,100]⟩,⟨#[114,105,110,103]⟩] (by decide) (by decide)
   push_cast [O,U]
   repeat' ((first|(refine plc [0] (o0) ?_ ?_;push_cast [O,U];rintro r os ⟨s0,hs0,rfl,rfl⟩)|refine pC ?_|refine pQC ?_|refine pU ?_|refine pif ?_ ?_<;>intro h<;>try exact pN h)<;>push_cast [O,U])
   (refine retK_of [0] ?_;push_cast [O,U])
   exact ⟨.agg (Opr.e ⟨8,⟨#[]⟩,zeroD,⟨#[]⟩,s0⟩),[tape L (q+1+1)],by push_cast [O,U],by push_cast [O,U],⟨8,⟨#[]⟩,zeroD,⟨#[]⟩,s0⟩,q+1+1,oprZ (Nat.zero_le _) (Nat.zero_le _) (sz100 (by decide) hs0),by omega,rfl,rfl⟩
 ·have o0:=one (q+1) (by omega) [⟨#[104,105,100]⟩,⟨#[110,105,99]⟩,⟨#[99,111,114,101]⟩,⟨#[101,120,116,114,97]⟩,⟨#[111,116,104,101,114]⟩] (by decide) (by decide)
  push_cast [O,U]
  repeat' ((first|(refine plc [0] (o0) ?_ ?_;push_cast [O,U];rintro r os ⟨s0,hs0,rfl,rfl⟩)|refine pC ?_|refine pQC ?_|refine pU ?_|refine pif ?_ ?_<;>intro h<;>try exact pN h)<;>push_cast [O,U])
  (refine retK_of [0] ?_;push_cast [O,U])
  exact ⟨.agg (Opr.e ⟨9,⟨#[]⟩,zeroD,⟨#[]⟩,s0⟩),[tape L (q+1+1)],by push_cast [O,U],by push_cast [O,U],⟨9,⟨#[]⟩,zeroD,⟨#[]⟩,s0⟩,q+1+1,oprZ (Nat.zero_le _) (Nat.zero_le _) (sz100 (by decide) hs0),by omega,rfl,rfl⟩
end Go.Proofs.YtmbbkfffcflfcaaGreatDoor
namespace Go.Proofs.YtmbbkfffcflfcaaGreatDoor
attribute [local irreducible] PL QL PWPr PCalls Weak RetK Kontr PA PCallsG
open Go.RowKit
open IntWalk renaming iteOmega → O, toNatUp → U
set_option linter.unusedVariables false
set_option linter.unusedSimpArgs false
set_option maxRecDepth 20000
def insAt3 (l:List Atr) (n v:ByteArray):List Atr:=insM n v l
theorem getM_find (l:List Atr) (n:ByteArray):(getM l n).1=((l.find? fun a=>decide (a.name=n)).map Atr.value).getD ⟨#[]⟩:=by
 unfold getM
 cases l.find? (fun a=>decide (a.name=n))<;>rfl
theorem insM_in {n v:ByteArray}:∀ {l:List Atr} {a:Atr},a ∈ insM n v l → a ∈ l∨a=⟨n,v⟩
 | [],a,h=>by
  simp only [insM,one] at h
  split at h
  ·cases h
  ·exact .inr (List.mem_singleton.1 h)
 | x :: t,a,h=>by
  rw [insM] at h
  split at h
  ·rcases List.mem_cons.1 h with rfl|h
   ·exact .inl (List.mem_cons_self ..)
   ·rcases insM_in h with h|h
    ·exact .inl (List.mem_cons_of_mem _ h)
    ·exact .inr h
  ·rcases List.mem_append.1 h with h|h
   ·simp only [one] at h
    split at h
    ·cases h
    ·exact .inr (List.mem_singleton.1 h)
   ·split at h
    ·exact .inl (List.mem_cons_of_mem _ h)
    ·exact .inl h
def sameV (d:Dev) (n v:ByteArray):Bool:=decide (((d.attrs.find? fun a=>decide (a.name=n)).map Atr.value).getD ⟨#[]⟩=v)
set_option maxHeartbeats 4000000 in
theorem kset_pure (k:Ker) (op:Opr) (d:Dev) (hB:KerB k) (ho:OprOk op) (hd:d ∈ k.tree) (hn:k.evs.length+1≤1000000) :
  PCallsG 1 Tryz.prog 98 [.c (.ptr 0 0),.agg op.e,.agg d.e] (kerO k) fun r os=>r = .c (.v (.int .i64 ((k.set d op.name (insM op.name op.value d.attrs) (sameV d op.name op.value)).2)))∧os=kerO (k.set d op.name (insM op.name op.value d.attrs) (sameV d op.name op.value)).1:=by
 have hal:d.attrs.length≤24:=(hB.small hd).att
 have hdk:=hB.ok hd
 have hv:=valid_pure op.name ho.name
 have hg:=get_pure d.attrs op.name (by omega)
 have hs:=set_pure d.attrs op.name op.value (by omega) (up_of hB hd)
 have hsl:=insM_len op.name op.value d.attrs
 have hdo:(attD d (insM op.name op.value d.attrs)).ok:=⟨hdk.name,hdk.original,hdk.subsystem,hdk.driver,hdk.alias_,fun a ha=>by
  rcases insM_in ha with h|rfl
  ·exact hdk.attrs a h
  ·exact ⟨ho.name,ho.value⟩,by show (insM op.name op.value d.attrs).length≤_;omega,hdk.orig⟩
 have hc:=kchg_pure k (attD d (insM op.name op.value d.attrs)) hB hdo (by have:=hB.orig d hd;show d.original.size≤_;omega) (by show (insM op.name op.value d.attrs).length≤_;omega)
 obtain ⟨gv,hgv⟩:∃ gv,(getM d.attrs op.name).1=gv:=⟨_,rfl⟩
 rw [hgv] at hg
 have hsv:sameV d op.name op.value=decide (gv=op.value):=by unfold sameV;rw [← getM_find,hgv]
 obtain ⟨na,hna⟩:∃ na,insM op.name op.value d.attrs=na:=⟨_,rfl⟩
 rw [hna] at hs hc hdo hsl ⊢
 have hat:∀ x,attD d x=⟨d.index,d.parent,d.name,d.original,d.subsystem,d.driver,d.alias_,d.kind,d.number,x⟩:=fun x=>rfl
 obtain ⟨X,hX⟩:∃ X,k.set d op.name na (sameV d op.name op.value)=X:=⟨_,rfl⟩
 rw [hX]
 rw [hsv] at hX
 unfold Ker.set at hX
 refine pcalls_ofG 1 (by simp [kerO]) Tryz.func98 rfl (by simp [Tryz.ntmps98]) (by rintro r os ⟨rfl,rfl⟩;simp [kerO]) ?_
 rw [Tryz.ntmps98,Tryz.results98]
 push_cast [O,U]
 have cB:CutB 10 []:=trivial
 cases hvv:validS op.name with
 | false =>
  rw [hvv] at hv hX
  rw [if_pos rfl] at hX
  subst hX
  repeat' ((first|refine plE [] hv ?_ ?_|refine pC ?_|refine pQC ?_|refine pU ?_|refine pif ?_ ?_<;>intro h<;>try exact pN h)<;>push_cast [O,U])
  (refine retK_of [0,1,2] ?_;push_cast [O,U])
 | true =>
  rw [hvv] at hv hX
  rw [if_neg (by simp)] at hX
  by_cases he:chgErr k.tree (attD d na)=0
  case neg =>
   rw [if_pos he] at hX
   rw [if_neg he] at hc
   obtain ⟨ce,hce⟩:∃ ce,chgErr k.tree (attD d na)=ce:=⟨_,rfl⟩
   rw [hce] at he hc hX
   subst hX
   rw [hat] at hc
   repeat' ((first|refine plE [] hv ?_ ?_|refine plE [] hg ?_ ?_|refine plE [] hs ?_ ?_|refine plE [0,1,2] hc ?_ ?_|refine pC ?_|refine pQC ?_|refine pU ?_|refine pif ?_ ?_<;>intro h<;>try exact pN h)<;>push_cast [O,U,he])
   (refine retK_of [0,1,2] ?_;push_cast [O,U])
  rw [if_neg (fun h=>h he)] at hX
  rw [if_pos he,he] at hc
  have hB2:=hB.chg he
  obtain ⟨K,hK⟩:∃ K,k.withT (chgT k.tree (attD d na))=K:=⟨_,rfl⟩
  have hKe:K.evs=k.evs:=by rw [← hK];rfl
  rw [hK] at hc hB2 hX
  rw [hat] at hc
  by_cases hgv2:gv=op.value
  ·rw [decide_eq_true hgv2,if_pos rfl] at hX
   subst hX
   have hgn:(op.value≠op.value)=False:=by simp
   repeat' ((first|refine plE [] hv ?_ ?_|refine plE [] hg ?_ ?_|refine plE [] hs ?_ ?_|refine plE [0,1,2] hc ?_ ?_|refine pC ?_|refine pQC ?_|refine pU ?_|refine pif ?_ ?_<;>intro h<;>try exact pN h)<;>push_cast [O,U,hgv2,hgn])
   (refine retK_of [0,1,2] ?_;push_cast [O,U])
  ·rw [decide_eq_false hgv2,if_neg (by simp)] at hX
   have h1:=kev_pure K 3 d.index hB2.inv.tree
   have h2:=kemit_pure K [⟨0,3,d.index,pathM K.tree d.index,⟨#[]⟩⟩] (by rw [hKe];simp;omega)
   rw [show K.tells [⟨0,3,d.index,pathM K.tree d.index,⟨#[]⟩⟩]=K.emit 3 d.index ⟨#[]⟩ from rfl] at h2
   obtain ⟨E,hE⟩:∃ E,K.emit 3 d.index ⟨#[]⟩=E:=⟨_,rfl⟩
   rw [hE] at h2 hX
   subst hX
   repeat' ((first|refine plE [] hv ?_ ?_|refine plE [] hg ?_ ?_|refine plE [] hs ?_ ?_|refine plE [0,1,2] hc ?_ ?_|refine plE [0,1,2] h1 ?_ ?_|(refine plcG 1 [0,1,2] (h2) ?_ ?_;push_cast [O,U,hgv2];rintro r os ⟨rfl,rfl⟩)|refine pC ?_|refine pQC ?_|refine pU ?_|refine pif ?_ ?_<;>intro h<;>try exact pN h)<;>push_cast [O,U,hgv2])
   (refine retK_of [0,1,2] ?_;push_cast [O,U])
set_option maxHeartbeats 4000000 in
theorem kren_pure (k:Ker) (op:Opr) (d:Dev) (hB:KerB k) (ho:OprOk op) (hd:d ∈ k.tree) (hn:k.evs.length+1≤1000000) :
  PCallsG 1 Tryz.prog 100 [.c (.ptr 0 0),.agg op.e,.agg d.e] (kerO k) fun r os=>r = .c (.v (.int .i64 ((k.rename d op.name).2)))∧os=kerO (k.rename d op.name).1:=by
 have hdk:=hB.ok hd
 have hdo:(nmeD d op.name).ok:=⟨ho.name,hdk.original,hdk.subsystem,hdk.driver,hdk.alias_,hdk.attrs,hdk.len,hdk.orig⟩
 have hc:=kchg_pure k (nmeD d op.name) hB hdo (by have:=hB.orig d hd;show d.original.size≤_;omega) (hB.att d hd)
 have h0:=kev_pure k 4 d.index hB.inv.tree
 have hat:nmeD d op.name=⟨d.index,d.parent,op.name,d.original,d.subsystem,d.driver,d.alias_,d.kind,d.number,d.attrs⟩:=rfl
 obtain ⟨X,hX⟩:∃ X,k.rename d op.name=X:=⟨_,rfl⟩
 rw [hX]
 unfold Ker.rename at hX
 refine pcalls_ofG 1 (by simp [kerO]) Tryz.func100 rfl (by simp [Tryz.ntmps100]) (by rintro r os ⟨rfl,rfl⟩;simp [kerO]) ?_
 rw [Tryz.ntmps100,Tryz.results100]
 push_cast [O,U]
 have cB:CutB 11 []:=trivial
 by_cases hk:d.kind=4
 case neg =>
  rw [if_pos hk] at hX
  subst hX
  repeat' ((first|refine pC ?_|refine pQC ?_|refine pU ?_|refine pif ?_ ?_<;>intro h<;>try exact pN h)<;>push_cast [O,U,hk])
  (refine retK_of [0,1,2] ?_;push_cast [O,U])
 rw [if_neg (fun h=>h hk)] at hX
 by_cases he:chgErr k.tree (nmeD d op.name)=0
 case neg =>
  rw [if_pos he] at hX
  rw [if_neg he] at hc
  obtain ⟨ce,hce⟩:∃ ce,chgErr k.tree (nmeD d op.name)=ce:=⟨_,rfl⟩
  rw [hce] at he hc hX
  subst hX
  rw [hat] at hc
  have hsm:(decide (d.name=op.name)=true)∨(decide (d.name=op.name)=false):=by cases decide (d.name=op.name)<;>simp
  rcases hsm with hs|hs
  ·have hs':=of_decide_eq_true hs
   repeat' ((first|(refine pwp_cut 11 [] ?_;apply pwp_drawn_to;(focus kernel_rfl);(focus (simp only [List.length_cons,List.length_nil,Nat.reduceAdd];(repeat' first|(refine plE [0,1,2] h0 ?_ ?_<;>push_cast [O,U,  hs])|((first|refine pah 0 ?_|refine pah 1 ?_|refine pah 4 ?_|refine pah 5 ?_|refine pah 7 ?_|refine pah 9 ?_|refine pah 10 ?_|refine pah 11 ?_);push_cast [O,U,  hs])|(refine pad ?_;first|with_reducible exact weak_cutS 11 [] _|(refine weak_fg ?_;push_cast [O,U,  hs]))|((first|refine pas [2] ?_|refine pas [3] ?_|refine pas [6] ?_|refine pas [8] ?_);push_cast [O,U,  hs])|((first|refine pas [2,6] ?_|refine pas [2,8] ?_|refine pas [3,6] ?_|refine pas [3,8] ?_|refine pas [6,8] ?_);push_cast [O,U,  hs];refine ⟨?_,?_⟩)|((first|refine pas [2,6,8] ?_|refine pas [3,6,8] ?_);push_cast [O,U,  hs];refine ⟨?_,?_,?_⟩));done));push_cast [O,U,  hs])|refine plE [0,1,2] hc ?_ ?_|refine pC ?_|refine pQC ?_|refine pU ?_|refine pif ?_ ?_<;>intro h<;>try exact pN h)<;>push_cast [O,U,hk,he,hs])
   (refine retK_of [0,1,2] ?_;push_cast [O,U])
  ·have hs':=of_decide_eq_false hs
   repeat' ((first|(refine pwp_cut 11 [] ?_;apply pwp_drawn_to;(focus kernel_rfl);(focus (simp only [List.length_cons,List.length_nil,Nat.reduceAdd];(repeat' first|(refine plE [0,1,2] h0 ?_ ?_<;>push_cast [O,U,  hs])|((first|refine pah 0 ?_|refine pah 1 ?_|refine pah 4 ?_|refine pah 5 ?_|refine pah 7 ?_|refine pah 9 ?_|refine pah 10 ?_|refine pah 11 ?_);push_cast [O,U,  hs])|(refine pad ?_;first|with_reducible exact weak_cutS 11 [] _|(refine weak_fg ?_;push_cast [O,U,  hs]))|((first|refine pas [2] ?_|refine pas [3] ?_|refine pas [6] ?_|refine pas [8] ?_);push_cast [O,U,  hs])|((first|refine pas [2,6] ?_|refine pas [2,8] ?_|refine pas [3,6] ?_|refine pas [3,8] ?_|refine pas [6,8] ?_);push_cast [O,U,  hs];refine ⟨?_,?_⟩)|((first|refine pas [2,6,8] ?_|refine pas [3,6,8] ?_);push_cast [O,U,  hs];refine ⟨?_,?_,?_⟩));done));push_cast [O,U,  hs])|refine plE [0,1,2] hc ?_ ?_|refine pC ?_|refine pQC ?_|refine pU ?_|refine pif ?_ ?_<;>intro h<;>try exact pN h)<;>push_cast [O,U,hk,he,hs])
   (refine retK_of [0,1,2] ?_;push_cast [O,U])
 rw [if_neg (fun h=>h he)] at hX
 rw [if_pos he,he] at hc
 have hB2:=hB.chg he
 obtain ⟨K,hK⟩:∃ K,k.withT (chgT k.tree (nmeD d op.name))=K:=⟨_,rfl⟩
 have hKe:K.evs=k.evs:=by rw [← hK];rfl
 rw [hK] at hc hB2 hX
 rw [hat] at hc
 by_cases hs':d.name=op.name
 ·rw [if_pos hs'] at hX
  subst hX
  have hs:=decide_eq_true hs'
  repeat' ((first|(refine pwp_cut 11 [] ?_;apply pwp_drawn_to;(focus kernel_rfl);(focus (simp only [List.length_cons,List.length_nil,Nat.reduceAdd];(repeat' first|(refine plE [0,1,2] h0 ?_ ?_<;>push_cast [O,U,  hs])|((first|refine pah 0 ?_|refine pah 1 ?_|refine pah 4 ?_|refine pah 5 ?_|refine pah 7 ?_|refine pah 9 ?_|refine pah 10 ?_|refine pah 11 ?_);push_cast [O,U,  hs])|(refine pad ?_;first|with_reducible exact weak_cutS 11 [] _|(refine weak_fg ?_;push_cast [O,U,  hs]))|((first|refine pas [2] ?_|refine pas [3] ?_|refine pas [6] ?_|refine pas [8] ?_);push_cast [O,U,  hs])|((first|refine pas [2,6] ?_|refine pas [2,8] ?_|refine pas [3,6] ?_|refine pas [3,8] ?_|refine pas [6,8] ?_);push_cast [O,U,  hs];refine ⟨?_,?_⟩)|((first|refine pas [2,6,8] ?_|refine pas [3,6,8] ?_);push_cast [O,U,  hs];refine ⟨?_,?_,?_⟩));done));push_cast [O,U,  hs])|refine plE [0,1,2] hc ?_ ?_|refine pC ?_|refine pQC ?_|refine pU ?_|refine pif ?_ ?_<;>intro h<;>try exact pN h)<;>push_cast [O,U,hk,hs])
  (refine retK_of [0,1,2] ?_;push_cast [O,U])
 ·rw [if_neg hs'] at hX
  have hs:=decide_eq_false hs'
  have h1:=kev_pure K 4 d.index hB2.inv.tree
  have h2:=kemit_pure K [⟨0,4,d.index,pathM K.tree d.index,pathM k.tree d.index⟩] (by rw [hKe];simp;omega)
  rw [show K.tells [⟨0,4,d.index,pathM K.tree d.index,pathM k.tree d.index⟩]=K.emit 4 d.index (pathM k.tree d.index) from rfl] at h2
  obtain ⟨E,hE⟩:∃ E,K.emit 4 d.index (pathM k.tree d.index)=E:=⟨_,rfl⟩
  rw [hE] at h2 hX
  subst hX
  repeat' ((first|(refine pwp_cut 11 [] ?_;apply pwp_drawn_to;(focus kernel_rfl);(focus (simp only [List.length_cons,List.length_nil,Nat.reduceAdd];(repeat' first|(refine plE [0,1,2] h0 ?_ ?_;(focus (push_cast [O,U,  hs];done));push_cast [O,U,  hs])|((first|refine pah 0 ?_|refine pah 1 ?_|refine pah 4 ?_|refine pah 5 ?_|refine pah 7 ?_|refine pah 9 ?_|refine pah 10 ?_|refine pah 11 ?_);push_cast [O,U,  hs])|(refine pad ?_;first|with_reducible exact weak_cutS 11 [] _|(refine weak_fg ?_;push_cast [O,U,  hs]))|((first|refine pas [2] ?_|refine pas [3] ?_|refine pas [6] ?_|refine pas [8] ?_);push_cast [O,U,  hs])|((first|refine pas [2,6] ?_|refine pas [2,8] ?_|refine pas [3,6] ?_|refine pas [3,8] ?_|refine pas [6,8] ?_);push_cast [O,U,  hs];refine ⟨?_,?_⟩)|((first|refine pas [2,6,8] ?_|refine pas [3,6,8] ?_);push_cast [O,U,  hs];refine ⟨?_,?_,?_⟩));done));push_cast [O,U,  hs])|refine plE [0,1,2] hc ?_ ?_;focus (push_cast [O,U,hk,hs];done)|refine plE [0,1,2] h1 ?_ ?_;focus (push_cast [O,U,hk,hs];done)|(refine plcG 1 [0,1,2] (h2) ?_ ?_;push_cast [O,U,hk,hs];rintro r os ⟨rfl,rfl⟩)|refine pC ?_|refine pQC ?_|refine pU ?_|refine pif ?_ ?_<;>intro h<;>try exact pN h)<;>push_cast [O,U,hk,hs])
  (refine retK_of [0,1,2] ?_;push_cast [O,U])
end Go.Proofs.YtmbbkfffcflfcaaGreatDoor
