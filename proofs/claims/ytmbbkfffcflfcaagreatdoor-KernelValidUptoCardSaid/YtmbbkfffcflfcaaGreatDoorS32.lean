/- What the program computes, and the plain laws of it, part 32. -/
import Derived.Lib.ItoaNum
import Derived.WideKeyEntry
import Derived.Test.YtmbbkfffcflfcaaGreatDoorS31
namespace Go.Proofs.YtmbbkfffcflfcaaGreatDoor
open Go.RowKit
open IntWalk renaming iteOmega → O, toNatUp → U
set_option linter.unusedVariables false
set_option linter.unusedSimpArgs false
structure Inh.good (s:Inh):Prop where
 ok:s.ok
 paths:(s.reqs.map Req.path).Nodup
 ids:(s.list.map Ihb.id).Nodup
theorem valid_size32 {s:ByteArray} (h:validS s=true):s.size≤32:=by
 unfold validS at h
 simp only [Bool.and_eq_true,decide_eq_true_eq] at h
 exact h.1.1.2
theorem glob_size {p:ByteArray} (h:globM p=0):p.size≤256:=by
 unfold globM at h
 split at h
 ·simp at h
 ·omega
theorem add_split {s:Inh} {who pat:ByteArray} (h:addE s who pat=0):validS who=true∧globM pat=0∧s.list.length < 32∧s.next < 1073741824:=by
 unfold addE at h
 split at h
 ·simp at h
 split at h
 ·simp at h
 split at h
 ·simp at h
 rename_i h1 h2 h3
 exact ⟨by simpa using h1,by simpa using h2,by omega,by omega⟩
theorem Inh.good.add {s:Inh} (h:s.good) {who pat:ByteArray} {till:Int} (h1 : -1000000≤till) (h2:till≤1000000) (e:addE s who pat=0):(addM s who pat till).good:=by
 obtain ⟨e1,e2,e3,e4⟩:=add_split e
 have hv:=valid_size32 e1
 have hg:=glob_size e2
 have hM:addM s who pat till=⟨s.next+1,s.list++[⟨s.next,who,pat,till⟩],s.reqs⟩:=by unfold addM;rw [if_pos e]
 rw [hM]
 refine ⟨⟨by have:=h.ok.n0;simp only;omega,by simp only;omega,by rw [List.length_append,List.length_singleton];omega,h.ok.reqs,fun x hx=>?_,h.ok.req⟩,h.paths,?_⟩
 ·rw [List.mem_append,List.mem_singleton] at hx
  rcases hx with hx|hx
  ·have:=h.ok.ihb x hx
   exact ⟨⟨this.1.1,by simp only;omega⟩,this.2⟩
  ·subst hx
   have:=h.ok.n0
   exact ⟨⟨this,by simp only;omega⟩,⟨h1,h2⟩,hg,by simp only;omega⟩
 ·rw [List.map_append,List.nodup_append]
  refine ⟨h.ids,by simp,fun a ha b hb=>?_⟩
  rw [List.mem_map] at ha
  obtain ⟨x,hx,rfl⟩:=ha
  simp only [List.map_cons,List.map_nil,List.mem_singleton] at hb
  subst hb
  have:=(h.ok.ihb x hx).1.2
  omega
theorem good_sub {s:Inh} (h:s.good) (p:Ihb → Bool) (q:Req → Bool):Inh.good ⟨s.next,s.list.filter p,s.reqs.filter q⟩:=by
 refine ⟨⟨h.ok.n0,h.ok.n1,Nat.le_trans (List.length_filter_le _ _) h.ok.len,Nat.le_trans (List.length_filter_le _ _) h.ok.reqs,fun x hx=>h.ok.ihb x (List.mem_filter.1 hx).1,fun x hx=>h.ok.req x (List.mem_filter.1 hx).1⟩,?_,?_⟩
 ·exact List.Nodup.sublist ((List.filter_sublist).map _) h.paths
 ·exact List.Nodup.sublist ((List.filter_sublist).map _) h.ids
theorem filter_true {α:Type} (l:List α):l.filter (fun _=>true)=l:=by simp
theorem Inh.good.drop {s:Inh} (h:s.good) (p:ByteArray):(dropM s p).good:=by
 have:=good_sub h (fun _=>true) (fun r=>decide (r.path≠p))
 rw [filter_true] at this
 exact this
def ks1:Inh:=⟨1,[],[]⟩
theorem getD_memD (l:List Dev) {i:Nat} (hi:i < l.length):l.getD i default ∈ l:=by rw [getD_lt l hi];exact List.getElem_mem _
def goneL (l:List Dev) (n:Int) (i:Nat):List Dev:=(l.take i).filter fun d=>belowM l d.index n
def goneE (l:List Dev) (n:Int) (i:Nat):List (MK × List D):=(goneL l n i).map fun d=>(.i .i64 d.index,[.v (.bool true)])
theorem goneE_zero (l:List Dev) (n:Int):goneE l n 0=[]:=rfl
theorem mget_gone (n:Int):∀ m:List Dev,mget (m.map fun d=>((.i .i64 d.index:MK),[D.v (.bool true)])) (.i .i64 n)=(findD m n).map fun _=>[D.v (.bool true)]
 | []=>rfl
 | d :: m=>by
  rw [List.map_cons,mget]
  unfold findD
  by_cases h:d.index=n
  ·rw [List.find?_cons_of_pos (by simpa using h)]
   subst h
   simp
  ·rw [List.find?_cons_of_neg (by simpa using h),if_neg (by simp [h])]
   exact mget_gone n m
theorem lk_gone (l:List Dev) (n:Int) (i:Nat) (k:Int):lkP false (.c (.v (.bool false))) false (mget (goneE l n i) (.i .i64 k))=some (.c (.v (.bool (findD (goneL l n i) k).isSome))):=by
 unfold goneE
 rw [mget_gone]
 cases findD (goneL l n i) k<;>rfl
theorem goneL_find {l:List Dev} (h:Okp l) (n:Int) {i:Nat} {d:Dev} (hd:d ∈ l.take i):(findD (goneL l n i) d.index).isSome=belowM l d.index n:=by
 cases hb:belowM l d.index n with
 | true =>
  have hm:d ∈ goneL l n i:=by unfold goneL;rw [List.mem_filter];exact ⟨hd,hb⟩
  have hn:((goneL l n i).map Dev.index).Nodup:=h.nodup.sublist (((List.filter_sublist).trans (List.take_sublist _ _)).map _)
  rw [findD_mem hn hm];rfl
 | false =>
  cases hf:findD (goneL l n i) d.index with
  | none=>rfl
  | some e =>
   obtain ⟨h3,h4⟩:=findD_some hf
   unfold goneL at h3
   rw [List.mem_filter,h4,hb] at h3
   simp at h3
theorem below_step {l:List Dev} (h:Okp l) (n:Int) {i:Nat} (hi:i < l.length):belowM l (l.getD i default).index n=(decide ((l.getD i default).index=n) || (findD (goneL l n i) (l.getD i default).parent).isSome):=by
 have hm:=getD_memD l hi
 unfold belowM
 rw [chain_step h hm,List.any_cons]
 congr 1
 rw [getD_lt l hi]
 rcases h.par i hi with h0|⟨j,hj,hp⟩
 ·rw [h0,chain_none (find0 h.pos (by omega)),find0 (fun d hd=>?_) (by omega)]
  ·rfl
  ·unfold goneL at hd
   exact h.pos d (List.mem_of_mem_take (List.mem_filter.1 hd).1)
 ·have hm:l[j] ∈ l.take i:=by rw [List.mem_take_iff_getElem];exact ⟨j,by omega,rfl⟩
  rw [← hp,goneL_find h n hm]
  rfl
theorem goneE_yes {l:List Dev} (h:Okp l) {n:Int} {i:Nat} (hi:i < l.length) (hb:belowM l (l.getD i default).index n=true):mput (goneE l n i) (.i .i64 (l.getD i default).index) [.v (.bool true)]=goneE l n (i+1):=by
 rw [mput_new]
 ·unfold goneE goneL
  rw [List.take_add_one,List.getElem?_eq_getElem hi,← getD_lt l hi,List.filter_append,List.map_append,Option.toList_some,List.filter_cons_of_pos (p:=fun d:Dev=>belowM l d.index n) (a:=l.getD i default) (l:=[]) hb]
  rfl
 ·unfold goneE
  rw [mget_gone,findD_none.2 fun d hd e=>?_]
  ·rfl
  ·unfold goneL at hd
   obtain ⟨j,hj,rfl⟩:=List.mem_take_iff_getElem.1 (List.mem_filter.1 hd).1
   exact new_index h hi j (by omega) (by rw [getD_lt l (by omega)];exact e)
theorem goneE_no {l:List Dev} {n:Int} {i:Nat} (hi:i < l.length) (hb:belowM l (l.getD i default).index n=false):goneE l n (i+1)=goneE l n i:=by
 unfold goneE goneL
 rw [List.take_add_one,List.getElem?_eq_getElem hi,← getD_lt l hi,List.filter_append,Option.toList_some,List.filter_cons_of_neg (p:=fun d:Dev=>belowM l d.index n) (a:=l.getD i default) (l:=[]) (by rw [hb];exact Bool.false_ne_true),List.filter_nil,List.append_nil]
theorem gone_all {l:List Dev} (h:Okp l) (n:Int) {d:Dev} (hd:d ∈ l):(findD (goneL l n l.length) d.index).isSome=belowM l d.index n:=goneL_find h n (by rw [List.take_length];exact hd)
theorem below_self {l:List Dev} (h:Okp l) {d:Dev} (hd:d ∈ l):belowM l d.index d.index=true:=by unfold belowM;rw [chain_step h hd,List.any_cons];simp
theorem gone_ne {l:List Dev} (h:Okp l) {d:Dev} (hd:d ∈ l):goneE l d.index l.length≠[]:=by
 intro e
 have h1:=gone_all h d.index hd
 have h2:belowM l d.index d.index=true:=by unfold belowM;rw [chain_step h hd,List.any_cons];simp
 unfold goneE at e
 rw [List.map_eq_nil_iff] at e
 rw [e,h2] at h1
 cases h1
end Go.Proofs.YtmbbkfffcflfcaaGreatDoor
namespace Go.Proofs.YtmbbkfffcflfcaaGreatDoor
attribute [local irreducible] PL QL PWPr PCalls Weak RetK Kontr PA
open Go.RowKit
open IntWalk renaming iteOmega → O, toNatUp → U
set_option linter.unusedVariables false
set_option linter.unusedSimpArgs false
set_option maxRecDepth 20000
set_option maxHeartbeats 4000000 in
theorem remove_pure (l:List Dev) (n:Int) (h:Okp l) (hf:(findD l n).isSome=true) (hl:l.length≤1000) (ha:∀ d ∈ l,d.attrs.length≤1000000000) :
  PCalls Tryz.prog 144 [.agg (trE l),.c (.v (.int .i64 n))] [] fun r os=>r = .two (.agg (trE (remT l n))) (.c (.v (.int .i64 0)))∧os=[]:=by
 have hs:=subtree_pure l n
 have hcp:=copies_pure l (by omega) ha
 obtain ⟨d0,hd0⟩:=Option.isSome_iff_exists.1 hf
 obtain ⟨hm0,hi0⟩:=findD_some hd0
 have hdel:=deleteGone_pure l (by omega) (goneE l n l.length) (fun d=>belowM l d.index n) (fun x hx=>by rw [lk_gone,gone_all h n hx]) ⟨d0,hm0,by rw [← hi0];exact below_self h hm0⟩
 have hne:(goneE l n l.length).length≠0:=fun e=>by rw [← hi0] at e;exact gone_ne h hm0 (List.length_eq_zero_iff.1 e)
 refine pcalls_of Tryz.func144 rfl (by simp [Tryz.ntmps144]) ?_
 rw [Tryz.ntmps144,Tryz.results144]
 push_cast [O,U]
 have cB:CutB 8 [11]:=trivial
 repeat' ((first|refine plE [] hs ?_ ?_|refine pC ?_|refine pQC ?_|refine pU ?_|refine pif ?_ ?_<;>intro h<;>try exact pN h)<;>push_cast [O,U])
 refine pwp_range (R:=fun lo r os'=>∃ L2 t2,os'=[.box 41 (trE l),.box 41 [.v (.slice none 0 0)],.map (some .i64) false (goneE l n l.length),.box 227 [.mp 2],.box 41 (trE l),.box 3 [.v (.int .i64 n)],.loop lo L2 t2,.map (some .i64) false (goneE l n l.length)]∧L2.st = .ready∧L2.pd=none) rfl (by kernel_rfl) (fun lo D fn=>?_) (fun lo r os' hR=>?_)
 ·refine pcalls_of_all Tryz.func214 rfl (by simp [Tryz.ntmps214]) ?_
  rw [Tryz.ntmps214,Tryz.results214]
  push_cast [O,U]
  have cB:CutB 7 [9,10,11]:=trivial
  repeat' ((first|refine pC ?_|refine pQC ?_|refine pU ?_|refine pif ?_ ?_<;>intro h<;>try exact pN h)<;>push_cast [O,U])
  (apply pwp_loop3 (α:=Nat) 7 [9,10,11] (fun i=>[(11,.c (.v (.int .i64 i)))]) (fun i=>[(2,.map (some .i64) false (goneE l n i)),(7,.map (some .i64) false (goneE l n i))]) (fun i=>i≤l.length) (fun i=>l.length - i) (0);(focus ((try push_cast [O,U]);rfl));(focus exact (Nat.zero_le _));(focus ((refine weak_fg ?_;try push_cast [O,U]);(try (simp [goneE_zero])))))
  intro i hi
  push_cast [O,U]
  by_cases hlt:i < l.length
  ·have hbs:=below_step h n hlt
   have hlk:=lk_gone l n i (l.getD i default).parent
   cases hb:belowM l (l.getD i default).index n with
   | false =>
    have hgn:=goneE_no (n:=n) hlt hb
    rw [hb] at hbs
    have hbs:=hbs.symm
    rw [Bool.or_eq_false_iff] at hbs
    obtain ⟨h1,h2⟩:=hbs
    have h1:=of_decide_eq_false h1
    rw [h2] at hlk
    repeat' ((first|refine pC ?_|refine pQC ?_|refine pU ?_|refine pif ?_ ?_<;>intro h<;>try exact pN h)<;>push_cast [O,U,hlk,h1])
    exact ⟨i+1,by omega,by (refine weak_fg ?_;push_cast [O,U,hgn]),by omega⟩
   | true =>
    have hgy:=goneE_yes h hlt hb
    rw [hb] at hbs
    by_cases h1:(l.getD i default).index=n
    ·rw [h1] at hgy
     repeat' ((first|refine pC ?_|refine pQC ?_|refine pU ?_|refine pif ?_ ?_<;>intro h<;>try exact pN h)<;>push_cast [O,U,hlk,h1])
     refine pl_yield 6 (qs:=[.agg (l.getD i default).e]) rfl rfl rfl (by push_cast [O,U]) rfl rfl (by push_cast [O,U,h1]) rfl rfl ?_
     try dsimp only
     push_cast [O,U]
     have cB:CutB 8 [11,12]:=trivial
     repeat' ((first|refine pC ?_|refine pQC ?_|refine pU ?_|refine pif ?_ ?_<;>intro h<;>try exact pN h)<;>push_cast [O,U])
     simp only [asgQ]
     refine ⟨_,_,rfl,rfl,?_⟩
     try dsimp only
     repeat' ((first|refine pC ?_|refine pQC ?_|refine pU ?_|refine pif ?_ ?_<;>intro h<;>try exact pN h)<;>push_cast [O,U,hgy,h1])
     simp only [yldQ]
     refine ⟨_,_,rfl,?_⟩
     refine pl_of_pops ?_
     push_cast [O,U,hgy,h1]
     have cB:CutB 7 [9,10,11]:=trivial
     repeat' ((first|refine pC ?_|refine pQC ?_|refine pU ?_|refine pif ?_ ?_<;>intro h<;>try exact pN h)<;>push_cast [O,U,hgy,h1])
     exact ⟨i+1,by omega,by (refine weak_fg ?_;push_cast [O,U,hgy,h1]),by omega⟩
    ·rw [decide_eq_false h1,Bool.false_or] at hbs
     rw [← hbs] at hlk
     repeat' ((first|refine pC ?_|refine pQC ?_|refine pU ?_|refine pif ?_ ?_<;>intro h<;>try exact pN h)<;>push_cast [O,U,hlk,h1])
     refine pl_yield 6 (qs:=[.agg (l.getD i default).e]) rfl rfl rfl (by push_cast [O,U]) rfl rfl (by push_cast [O,U,h1]) rfl rfl ?_
     try dsimp only
     push_cast [O,U]
     have cB:CutB 8 [11,12]:=trivial
     repeat' ((first|refine pC ?_|refine pQC ?_|refine pU ?_|refine pif ?_ ?_<;>intro h<;>try exact pN h)<;>push_cast [O,U])
     simp only [asgQ]
     refine ⟨_,_,rfl,rfl,?_⟩
     try dsimp only
     repeat' ((first|refine pC ?_|refine pQC ?_|refine pU ?_|refine pif ?_ ?_<;>intro h<;>try exact pN h)<;>push_cast [O,U,hgy,h1])
     simp only [yldQ]
     refine ⟨_,_,rfl,?_⟩
     refine pl_of_pops ?_
     push_cast [O,U,hgy,h1]
     have cB:CutB 7 [9,10,11]:=trivial
     repeat' ((first|refine pC ?_|refine pQC ?_|refine pU ?_|refine pif ?_ ?_<;>intro h<;>try exact pN h)<;>push_cast [O,U,hgy,h1])
     exact ⟨i+1,by omega,by (refine weak_fg ?_;push_cast [O,U,hgy,h1]),by omega⟩
  ·have hi2:i=l.length:=by omega
   subst hi2
   repeat' ((first|refine pC ?_|refine pQC ?_|refine pU ?_|refine pif ?_ ?_<;>intro h<;>try exact pN h)<;>push_cast [O,U])
   exact ⟨_,rfl,by push_cast [O,U],_,_,rfl,rfl,rfl⟩
 ·obtain ⟨L2,t2,rfl,h1,h2⟩:=hR
  refine ⟨L2,t2,rfl,by rw [h1];simp,?_⟩
  rw [h2]
  simp only [rngfQ]
  have cB:CutB 8 []:=trivial
  have hne2:¬ ((goneE l n l.length).length:Int)=0:=by omega
  push_cast [O,U]
  repeat' ((first|(refine pl_lenmap (k:=2) (e:=4) rfl rfl rfl (by kernel_rfl) rfl (by push_cast [O,U,hne2]) ?_;refine pl_of_pops ?_)|refine plE [] hcp ?_ ?_;focus (push_cast [O,U,hne2];done)|(refine pl_call2 false [8,3,2] rfl rfl (by kernel_rfl) hdel ?_ nofun ?_;push_cast [O,U,hne2];rintro r os ⟨m,rfl,rfl⟩;refine pl_weak (weak_frz 8 (by omega)) ?_;push_cast [O,U,hne2];refine pl_of_pops ?_)|refine pC ?_|refine pQC ?_|refine pU ?_|refine pif ?_ ?_<;>intro h<;>try exact pN h)<;>push_cast [O,U,hne2])
  (refine retK_of [] ?_;push_cast [O,U])
  rw [List.take_left' (List.length_map _)]
  rfl
end Go.Proofs.YtmbbkfffcflfcaaGreatDoor
namespace Go.Proofs.YtmbbkfffcflfcaaGreatDoor
open Go.RowKit
open IntWalk renaming iteOmega → O, toNatUp → U
set_option linter.unusedVariables false
set_option linter.unusedSimpArgs false
structure Acc where
 path:ByteArray
 node:ByteArray
 user:ByteArray
 deriving DecidableEq
instance:Inhabited Acc:=⟨⟨⟨#[]⟩,⟨#[]⟩,⟨#[]⟩⟩⟩
def Acc.d (a:Acc):List D:=[.v (.string a.path),.v (.string a.node),.v (.string a.user)]
def Acc.e (a:Acc):List E:=a.d.map D.e
structure Chg where
 kind:Int
 acc:Acc
instance:Inhabited Chg:=⟨⟨0,default⟩⟩
def Chg.d (c:Chg):List D:=.v (.int .i64 c.kind) :: c.acc.d
def Chg.e (c:Chg):List E:=c.d.map D.e
attribute [push_cast] Acc.d Acc.e Chg.d Chg.e
def cmpP (a b:ByteArray):Int:=match splitP a,splitP b with
 | some l,some m=>cmpL l m
 | _,_=>0
def okP1 (a:ByteArray):Prop:=∃ l,splitP a=some l
theorem cmpP_anti (a b:ByteArray):cmpP b a = -cmpP a b:=by
 unfold cmpP
 cases splitP a<;>cases splitP b<;>simp
 exact cmpL_anti _ _
theorem cmpP_trans {a b c:ByteArray} (h1:cmpP a b < 0) (h2:cmpP b c < 0):cmpP a c < 0:=by
 unfold cmpP at *
 cases ha:splitP a<;>cases hb:splitP b<;>cases hc:splitP c<;>simp_all
 exact cmpL_trans h1 h2
theorem cmpP_irr (a:ByteArray):¬ cmpP a a < 0:=by have:=cmpP_anti a a;omega
theorem spl_inj:∀ {l m:List UInt8},spl l=spl m → l=m
 | [],[],_=>rfl
 | [],b :: m,h=>by
  rw [spl,spl] at h
  split at h
  ·injection h with _ h;exact absurd h.symm (spl_ne m)
  ·split at h<;>simp at h
 | b :: l,[],h=>by
  rw [spl,spl] at h
  split at h
  ·injection h with _ h;exact absurd h (spl_ne l)
  ·split at h<;>simp at h
 | b :: l,c :: m,h=>by
  have key:∀ (b:UInt8) (l:List UInt8),b≠47 → ∃ h t,spl l=h :: t∧spl (b :: l)=(b :: h) :: t:=by
   intro b l hb
   cases hs:spl l with
   | nil=>exact absurd hs (spl_ne l)
   | cons h t=>exact ⟨h,t,rfl,by rw [spl,if_neg hb,hs]⟩
  by_cases e1:b=47<;>by_cases e2:c=47
  ·subst e1;subst e2
   rw [spl,spl,if_pos rfl,if_pos rfl] at h
   injection h with _ h
   rw [spl_inj h]
  ·obtain ⟨h1,t1,_,i2⟩:=key c m e2
   subst e1
   rw [i2,spl,if_pos rfl] at h
   injection h with h _;cases h
  ·obtain ⟨h1,t1,_,i2⟩:=key b l e1
   subst e2
   rw [i2,spl,if_pos rfl] at h
   injection h with h _;cases h
  ·obtain ⟨h1,t1,i1,i2⟩:=key b l e1
   obtain ⟨h2,t2,j1,j2⟩:=key c m e2
   rw [i2,j2] at h
   injection h with h h'
   injection h with h h''
   subst h;subst h';subst h''
   rw [spl_inj (i1.trans j1.symm)]
theorem parts_inj {s t:ByteArray} (h:parts s=parts t):s=t:=by
 unfold parts at h
 have h2:spl s.data.toList=spl t.data.toList:=by
  have:∀ {a b:List (List UInt8)},a.map unT=b.map unT → a=b:=by
   intro a
   induction a with
   | nil=>intro b h;cases b<;>simp at h ⊢
   | cons x a ih =>
    intro b h
    cases b with
    | nil=>simp at h
    | cons y b =>
     simp only [List.map_cons,List.cons.injEq] at h
     obtain ⟨h1,h2⟩:=h
     have hx:x=y:=by have:=congrArg (fun z:ByteArray=>z.data.toList) h1;simpa [unT] using this
     rw [hx,ih h2]
  exact this h
 have h3:=spl_inj h2
 cases s;cases t
 simp only at h3
 congr
 exact Array.toList_inj.1 h3
theorem slash_rest {s:ByteArray} (h:slashS s=true):s.data.toList=47 :: (restS s).data.toList:=by
 unfold restS
 rw [if_pos h]
 unfold slashS Lib.hasPrefix at h
 rw [Lib.extract_to_end]
 cases e:s.data.toList with
 | nil=>rw [e] at h;simp [List.isPrefixOf] at h
 | cons b l=>rw [e] at h;simp [List.isPrefixOf] at h;subst h;rfl
theorem splitP_inj {a b:ByteArray} {l:List ByteArray} (ha:splitP a=some l) (hb:splitP b=some l):a=b:=by
 unfold splitP at ha hb
 split at ha
 ·rename_i h1
  split at hb
  ·rename_i h2
   cases ha
   injection hb with hb
   have hr:=parts_inj hb
   have e1:=slash_rest h1.1
   have e2:=slash_rest h2.1
   rw [hr,← e1] at e2
   cases a;cases b
   simp only at e2
   congr
   exact (Array.toList_inj.1 e2).symm
  ·cases hb
 ·cases ha
theorem cmpP_eq {a b:ByteArray} (ha:okP1 a) (hb:okP1 b):cmpP a b=0 ↔ a=b:=by
 obtain ⟨l,hl⟩:=ha
 obtain ⟨m,hm⟩:=hb
 unfold cmpP
 rw [hl,hm]
 simp only
 rw [cmpL_eq]
 exact ⟨fun h=>splitP_inj hl (by rw [hm,h]),fun h=>by subst h;rw [hl] at hm;injection hm⟩
def ltA (a b:Acc):Prop:=cmpP a.path b.path < 0
structure Right (l:List Acc):Prop where
 ok:∀ a ∈ l,okP1 a.path
 asc:l.Pairwise ltA
 nodes:(l.map Acc.node).Nodup
theorem Right.nodup {l:List Acc} (h:Right l):l.Nodup:=h.asc.imp fun {a b} h e=>by subst e;exact cmpP_irr _ h
theorem Right.sublist {l m:List Acc} (h:Right l) (hs:m.Sublist l):Right m:=⟨fun a ha=>h.ok a (hs.subset ha),h.asc.sublist hs,h.nodes.sublist (hs.map _)⟩
instance (a b:Acc):Decidable (ltA a b):=inferInstanceAs (Decidable (cmpP a.path b.path < 0))
def insA (x:Acc) (l:List Acc):List Acc:=(l.takeWhile fun y=>decide (ltA y x))++x :: l.dropWhile fun y=>decide (ltA y x)
theorem tw_pre {l:List Acc} (h:l.Pairwise ltA) (x:Acc):(∀ y ∈ l.takeWhile fun y=>decide (ltA y x),ltA y x)∧∀ y ∈ l.dropWhile fun y=>decide (ltA y x),¬ ltA y x:=by
 induction l with
 | nil=>simp
 | cons a l ih =>
  obtain ⟨h1,h2⟩:=List.pairwise_cons.1 h
  obtain ⟨i1,i2⟩:=ih h2
  by_cases hx:ltA a x
  ·rw [List.takeWhile_cons_of_pos (by simpa using hx),List.dropWhile_cons_of_pos (by simpa using hx)]
   exact ⟨fun y hy=>by rcases List.mem_cons.1 hy with rfl|hy;exact hx;exact i1 y hy,i2⟩
  ·rw [List.takeWhile_cons_of_neg (by simpa using hx),List.dropWhile_cons_of_neg (by simpa using hx)]
   refine ⟨by simp,fun y hy=>?_⟩
   rcases List.mem_cons.1 hy with rfl|hy
   ·exact hx
   ·exact fun hc=>hx (cmpP_trans (h1 y hy) hc)
theorem mem_ins {x:Acc} {l:List Acc} {y:Acc}:y ∈ insA x l ↔ y=x∨y ∈ l:=by
 have e:l=(l.takeWhile fun y=>decide (ltA y x))++l.dropWhile fun y=>decide (ltA y x):=List.takeWhile_append_dropWhile.symm
 constructor
 ·intro h
  rcases List.mem_append.1 h with h|h
  ·right;rw [e];exact List.mem_append.2 (.inl h)
  ·rcases List.mem_cons.1 h with h|h
   ·exact .inl h
   ·right;rw [e];exact List.mem_append.2 (.inr h)
 ·rintro (h|h)
  ·subst h;simp [insA]
  ·rw [e] at h
   rcases List.mem_append.1 h with h|h
   ·exact List.mem_append.2 (.inl h)
   ·exact List.mem_append.2 (.inr (List.mem_cons_of_mem _ h))
theorem Right.ins {l:List Acc} {x:Acc} (h:Right l) (hx:okP1 x.path) (hp:∀ y ∈ l,y.path≠x.path) (hn:∀ y ∈ l,y.node≠x.node):Right (insA x l):=by
 obtain ⟨t1,t2⟩:=tw_pre h.asc x
 have e:l=(l.takeWhile fun y=>decide (ltA y x))++l.dropWhile fun y=>decide (ltA y x):=List.takeWhile_append_dropWhile.symm
 have hasc:=h.asc
 have hnd:=h.nodes
 refine ⟨fun a ha=>?_,?_,?_⟩
 ·rcases mem_ins.1 ha with rfl|ha
  ·exact hx
  ·exact h.ok a ha
 ·have hgt:∀ y ∈ l.dropWhile fun y=>decide (ltA y x),ltA x y:=by
   intro y hy
   have hyl:y ∈ l:=by rw [e];exact List.mem_append.2 (.inr hy)
   have h1:=t2 y hy
   have h2:cmpP y.path x.path≠0:=fun hc=>hp y hyl ((cmpP_eq (h.ok y hyl) hx).1 hc)
   have h3:=cmpP_anti y.path x.path
   unfold ltA at *
   omega
  rw [e] at hasc
  obtain ⟨p1,p2,p3⟩:=List.pairwise_append.1 hasc
  refine List.pairwise_append.2 ⟨p1,List.pairwise_cons.2 ⟨hgt,p2⟩,fun a ha b hb=>?_⟩
  rcases List.mem_cons.1 hb with rfl|hb
  ·exact t1 a ha
  ·exact p3 a ha b hb
 ·have hperm:(insA x l).Perm (x :: l):=by
   conv=>rhs;rw [e]
   exact List.perm_middle
  refine (hperm.map Acc.node).nodup_iff.2 ?_
  rw [List.map_cons,List.nodup_cons]
  refine ⟨fun hc=>?_,h.nodes⟩
  obtain ⟨y,hy,he⟩:=List.mem_map.1 hc
  exact hn y hy he
def applyA (l:List Acc) (c:Chg):Option (List Acc) × Int :=
 if c.kind=1 then (if c.acc ∈ l then (some (l.filter fun x=>decide (x≠c.acc)),0) else (none,381))
 else if c.kind=2 then (if ∃ y ∈ l,y.path=c.acc.path∨y.node=c.acc.node then (none,382) else match splitP c.acc.path with
  | none=>(none,383)
  | some _=>(some (insA c.acc l),0))
 else (none,380)
theorem Right.apply {l m:List Acc} {c:Chg} {n:Int} (h:Right l) (ha:applyA l c=(some m,n)):Right m:=by
 unfold applyA at ha
 split at ha
 ·split at ha
  ·cases ha;exact h.sublist List.filter_sublist
  ·cases ha
 ·split at ha
  ·split at ha
   ·cases ha
   ·rename_i hno
    split at ha
    ·cases ha
    ·rename_i l0 hs
     cases ha
     exact h.ins ⟨_,hs⟩ (fun y hy e=>hno ⟨y,hy,.inl e⟩) (fun y hy e=>hno ⟨y,hy,.inr e⟩)
  ·cases ha
structure Rec where
 path:ByteArray
 index:Int
 props:List Atr
 tags:List ByteArray
 owner:ByteArray
 group:ByteArray
 mode:Int
 deriving DecidableEq,Inhabited
def Rec.d (r:Rec):List D:=[.v (.string r.path),.v (.int .i64 r.index),.sl 2 (r.props.map Atr.d),.sl 1 (r.tags.map strD),.sl 1 [],.sl 1 [],.sl 1 [],.v (.string ⟨#[]⟩),.v (.int .i64 0),.v (.string r.owner),.v (.string r.group),.v (.int .i64 r.mode)]
attribute [push_cast] Rec.d
def Rec.e (r:Rec):List E:=[.v (.string r.path),.v (.int .i64 r.index),.sl 2 (r.props.map Atr.d),.sl 1 (r.tags.map strD),.sl 1 [],.sl 1 [],.sl 1 [],.v (.string ⟨#[]⟩),.v (.int .i64 0),.v (.string r.owner),.v (.string r.group),.v (.int .i64 r.mode)]
attribute [push_cast] Rec.e
structure Ses where
 id:Int
 user:ByteArray
 seat:ByteArray
 active:Bool
 deriving DecidableEq,Inhabited
def Ses.d (x:Ses):List D:=[.v (.int .i64 x.id),.v (.string x.user),.v (.string x.seat),.v (.bool x.active)]
attribute [push_cast] Ses.d
theorem find_at {α:Type} [Inhabited α] {q:α → Bool} {l:List α} {i:Nat} (hi:i < l.length) (hq:q (l.getD i default)=true) (hp:∀ x ∈ l.take i,q x=false):l.find? q=some (l.getD i default):=by
 rw [List.find?_eq_some_iff_append]
 refine ⟨hq,l.take i,l.drop (i+1),?_,fun a ha=>by simp [hp a ha]⟩
 rw [getD_lt l hi]
 conv=>lhs;rw [← List.take_append_drop i l,List.drop_eq_getElem_cons hi]
theorem find_no {α:Type} {q:α → Bool} {l:List α} (h:∀ x ∈ l,q x=false):l.find? q=none:=by
 rw [List.find?_eq_none]
 intro x hx
 simp [h x hx]
theorem mget_placeE {l:List Dev} (h:Okp l) (n:Int):(mget (placeE l l.length) (.i .i64 n)=none∧findD l n=none)∨∃ j,j < l.length∧mget (placeE l l.length) (.i .i64 n)=some [.v (.int .i64 (j:Int))]∧findD l n=some (l.getD j default):=by
 have key:∀ i,i≤l.length → (mget (placeE l i) (.i .i64 n)=none∧findD (l.take i) n=none)∨∃ j,j < i∧mget (placeE l i) (.i .i64 n)=some [.v (.int .i64 (j:Int))]∧findD (l.take i) n=some (l.getD j default):=by
  intro i
  induction i with
  | zero=>intro _;exact .inl ⟨rfl,rfl⟩
  | succ i ih =>
   intro hi
   have hlt:i < l.length:=by omega
   have hstep:placeE l (i+1)=placeE l i++[((.i .i64 (l.getD i default).index:MK),[D.v (.int .i64 (i:Int))])]:=by unfold placeE;rw [List.range_succ,List.map_append];rfl
   have happ:∀ (es:List (MK × List D)) (k:MK) (r:List D) (m:MK),mget (es++[(k,r)]) m=match mget es m with|some x=>some x|none=>if k=m then some r else none:=by
    intro es k r m
    induction es with
    | nil=>rfl
    | cons e es ihe =>
     obtain ⟨k',r'⟩:=e
     rw [List.cons_append,mget,mget,ihe]
     split<;>rfl
   have hfind:findD (l.take (i+1)) n=match findD (l.take i) n with|some x=>some x|none=>if (l.getD i default).index=n then some (l.getD i default) else none:=by
    unfold findD
    rw [List.take_succ_eq_append_getElem hlt,List.find?_append,getD_lt l hlt]
    cases hc:List.find? (fun d=>decide (d.index=n)) (l.take i) with
    | some x=>rfl
    | none =>
     simp only [Option.none_or]
     by_cases hx:l[i].index=n
     ·rw [List.find?_cons_of_pos (by simpa using hx),if_pos hx]
     ·rw [List.find?_cons_of_neg (by simpa using hx),if_neg hx];rfl
   rw [hstep,happ,hfind]
   rcases ih (by omega) with ⟨h1,h2⟩|⟨j,hj,h1,h2⟩
   ·rw [h1,h2]
    by_cases hx:(l.getD i default).index=n
    ·refine .inr ⟨i,by omega,?_,?_⟩
     ·simp only [hx,if_true]
     ·simp only [hx,if_true]
    ·refine .inl ⟨?_,?_⟩
     ·simp only
      rw [if_neg (fun e=>hx (by injection e))]
     ·simp only [if_neg hx]
   ·exact .inr ⟨j,by omega,by rw [h1],by rw [h2]⟩
 have:=key l.length (Nat.le_refl _)
 rw [List.take_length] at this
 rcases this with h|⟨j,hj,h1,h2⟩
 ·exact .inl h
 ·exact .inr ⟨j,hj,h1,h2⟩
def swN (k j:Nat):Nat:=if j=k then k+1 else if j=k+1 then k else j
theorem swN_sw (k j:Nat):swN k (swN k j)=j:=by unfold swN;split<;>(try split)<;>(try split)<;>omega
theorem swN_lt {k j n:Nat} (hk:k+1 < n) (hj:j < n):swN k j < n:=by unfold swN;split<;>(try split)<;>omega
def E.sw (k:Nat):E → E
 | .own j n=>.own (swN k j) n
 | .ptr j f=>.ptr (swN k j) f
 | .orow j z i f=>.orow (swN k j) z i f
 | .fn f ds ks=>.fn f ds (ks.map (swN k))
 | .mp j=>.mp (swN k j)
 | .seg j z lo n=>.seg (swN k j) z lo n
 | e=>e
def PV.sw (k:Nat):PV → PV
 | .c e=>.c (e.sw k)
 | .agg cs=>.agg (cs.map (E.sw k))
 | .undef=>.undef
 | .two x y=>.two (x.sw k) (y.sw k)
 | .three x y z=>.three (x.sw k) (y.sw k) (z.sw k)
def swT (k:Nat):List (Nat × PV) → List (Nat × PV)
 | []=>[]
 | (i,q) :: t=>(i,q.sw k) :: swT k t
def Ob.sw (k:Nat):Ob → Ob
 | .box ty cs=>.box ty (cs.map (E.sw k))
 | .loop l L t=>.loop l L (swT k t)
 | o=>o
def S.sw (s:S) (k:Nat):S:=match s.o[k]?,s.o[k+1]? with
 | some a,some b=>⟨swT k s.t,setO (setO (s.o.map (Ob.sw k)) k (b.sw k)) (k+1) (a.sw k)⟩
 | _,_=>s
theorem look_sw (k i:Nat):∀ t:List (Nat × PV),look (swT k t) i=(look t i).map (PV.sw k)
 | []=>rfl
 | (d,q) :: t=>by
  simp only [swT,look]
  split
  ·rfl
  ·exact look_sw k i t
theorem weak_sw {N p:Nat} {s:S} (k:Nat) (hp:p≤k):Weak N p s (s.sw k):=by
 intro Γ a w hA
 unfold S.sw
 split
 case h_2=>exact ⟨Γ,hA,Grow.refl _ _ _⟩
 rename_i oa ob ha hb
 have hm:=hA.inv.m
 have hn:=hm.n
 have hkl:k+1 < s.o.length:=(List.getElem?_eq_some_iff.1 hb).1
 have hkn:k+1 < Γ.n:=by rw [hn];exact hkl
 obtain ⟨Γ',hΓ⟩:∃ Γ':G,Γ'=⟨Γ.n,fun j=>Γ.β (swN k j),fun j=>Γ.cap (swN k j),Γ.I⟩:=⟨_,rfl⟩
 have q1:Γ'.n=Γ.n:=by rw [hΓ]
 have q2:Γ'.I=Γ.I:=by rw [hΓ]
 have q3:∀ j,Γ'.β (swN k j)=Γ.β j:=fun j=>by rw [hΓ];simp only [swN_sw]
 have q4:∀ j,Γ'.cap (swN k j)=Γ.cap j:=fun j=>by rw [hΓ];simp only [swN_sw]
 have q5:∀ j,Γ'.β j=Γ.β (swN k j):=fun j=>by rw [hΓ]
 have q6:∀ j,Γ'.cap j=Γ.cap (swN k j):=fun j=>by rw [hΓ]
 have hE:∀ (e:E) (y:Value),RE w Γ e y → RE w Γ' (e.sw k) y:=by
  intro e y h
  cases e with
  | own j n =>
   refine ⟨by rw [q1];exact swN_lt hkn h.1,?_⟩
   have h2:=h.2
   unfold OwnRep at h2 ⊢
   rw [q3,q4];exact h2
  | ptr j f=>exact ⟨by rw [q1];exact swN_lt hkn h.1,by rw [q3];exact h.2⟩
  | orow j z i f=>exact ⟨by rw [q1];exact swN_lt hkn h.1,by rw [q3];exact h.2⟩
  | mp j=>exact ⟨by rw [q1];exact swN_lt hkn h.1,by rw [q3];exact h.2⟩
  | seg j z lo n =>
   refine ⟨by rw [q1];exact swN_lt hkn h.1,?_⟩
   have h2:=h.2
   unfold SegRep at h2 ⊢
   rw [q3,q4];exact h2
  | fn f ds ks =>
   obtain ⟨xs,h1,h2,h3⟩:=h
   refine ⟨xs,?_,by rw [q2];exact h2,fun j hj=>?_⟩
   ·rw [h1,List.map_map]
    congr 1
    exact List.map_congr_left fun j _=>by simp only [Function.comp,keyVal,q3]
   ·obtain ⟨i,hi,rfl⟩:=List.mem_map.1 hj
    rw [q1];exact swN_lt hkn (h3 i hi)
  | v x=>exact h
  | sl z l=>unfold E.sw RE;rw [q2];exact h
  | full z l=>unfold E.sw RE;rw [q2];exact h
  | row cs=>unfold E.sw RE;rw [q2];exact h
  | any=>exact h
 have hEs:∀ {cs:List E} {ys:List Value},All2 (RE w Γ) cs ys → All2 (RE w Γ') (cs.map (E.sw k)) ys:=fun h=>All2.map_l.2 (h.mono hE)
 have hP:∀ (q:PV) (y:Value),RP w Γ q y → RP w Γ' (q.sw k) y:=by
  intro q
  induction q with
  | c e=>intro y h;exact hE e y h
  | agg cs=>rintro y ⟨xs,h1,h2⟩;exact ⟨xs,h1,hEs h2⟩
  | undef=>intro y h;exact h
  | two x z ih1 ih2=>rintro y ⟨u,v,h1,h2,h3⟩;exact ⟨u,v,h1,ih1 u h2,ih2 v h3⟩
  | three x z t ih1 ih2 ih3=>rintro y ⟨u,v,r,h1,h2,h3,h4⟩;exact ⟨u,v,r,h1,ih1 u h2,ih2 v h3,ih3 r h4⟩
 have hO:∀ (j:Nat) (o:Ob),RO w Γ j o → RO w Γ' (swN k j) (o.sw k):=by
  intro j o h0
  cases o with
  | box ty cs =>
   obtain ⟨j1,xs,j2,j3,j6⟩:=h0
   exact ⟨by rw [q4];exact j1,xs,by rw [q3];exact j2,hEs j3,by unfold Room;rw [q4];exact j6⟩
  | arr el' sz' rows' =>
   obtain ⟨j1,j2,j3,j4⟩:=h0
   refine ⟨j1,j2,by rw [q4];exact j3,fun hc=>?_⟩
   rw [q4] at hc ⊢
   obtain ⟨cur,m1,m2,m3,m4,m5⟩:=j4 hc
   exact ⟨cur,by rw [q3];exact m1,m2,m3,m4,by rw [q2];exact m5⟩
  | map kk ag es =>
   obtain ⟨j1,ms,ck,j2,j3⟩:=h0
   exact ⟨by rw [q4];exact j1,ms,ck,by rw [q3];exact j2,by rw [q2];exact j3⟩
  | loop l L t =>
   obtain ⟨j1,j2,tm,j3,j4,j5⟩:=h0
   refine ⟨by rw [q4];exact j1,by rw [q3];exact j2,tm,j3,j4,fun i q hq=>?_⟩
   rw [look_sw] at hq
   obtain ⟨q0,hq0,rfl⟩:=Option.map_eq_some_iff.1 hq
   obtain ⟨i1,i2⟩:=j5 i q0 hq0
   exact ⟨i1,hP q0 _ i2⟩
 have hsk:swN k k=k+1:=by unfold swN;simp
 have hsk1:swN k (k+1)=k:=by unfold swN;simp
 refine ⟨Γ',⟨⟨hA.inv.size,hA.inv.defers,fun i q hq=>?_,⟨by rw [q1,hn];simp [setO],fun j o ho=>?_,fun j j' h1 h2 h3 h4 h5=>?_,fun j h1 h2=>?_,fun b hb=>?_,⟨hm.pin.1,fun b hb=>by rw [q2];exact hm.pin.2 b hb⟩⟩⟩,by rw [q1];exact hA.le⟩,⟨Ext.refl _ _,fun b hb=>by rw [q2];exact hb,fun j h1 h2=>?_,fun b hb=>?_,fun j hj=>?_⟩⟩
 ·simp only [S.get] at hq
  rw [look_sw] at hq
  obtain ⟨q0,hq0,rfl⟩:=Option.map_eq_some_iff.1 hq
  obtain ⟨i1,i2⟩:=hA.inv.t i q0 hq0
  exact ⟨i1,hP q0 _ i2⟩
 ·simp only [setO] at ho
  by_cases e1:k+1=j
  ·subst e1
   rw [List.getElem?_set_self (by simp;exact hkl)] at ho
   cases ho
   have:=hO k oa (hm.ob k oa ha)
   rwa [hsk] at this
  rw [List.getElem?_set_ne e1] at ho
  by_cases e2:k=j
  ·subst e2
   rw [List.getElem?_set_self (by simp;omega)] at ho
   cases ho
   have:=hO (k+1) ob (hm.ob (k+1) ob hb)
   rwa [hsk1] at this
  rw [List.getElem?_set_ne e2,List.getElem?_map] at ho
  obtain ⟨o0,ho0,rfl⟩:=Option.map_eq_some_iff.1 ho
  have:=hO j o0 (hm.ob j o0 ho0)
  have e3:swN k j=j:=by unfold swN;rw [if_neg (by omega),if_neg (by omega)]
  rwa [e3] at this
 ·rw [q1] at h1 h2
  rw [q6] at h3 h4
  rw [q5,q5] at h5
  have:=hm.sep _ _ (swN_lt hkn h1) (swN_lt hkn h2) h3 h4 h5
  have h6:=congrArg (swN k) this
  rwa [swN_sw,swN_sw] at h6
 ·rw [q1] at h1
  rw [q6] at h2
  rw [q5,q2]
  exact hm.off _ (swN_lt hkn h1) h2
 ·rw [q2] at hb;exact hm.lt b hb
 ·rw [q1] at h1
  rw [q6] at h2
  exact .inl ⟨swN k j,swN_lt hkn h1,h2,(q5 j).symm⟩
 ·rw [q2] at hb;exact .inl hb
 ·have e3:swN k j=j:=by unfold swN;rw [if_neg (by omega),if_neg (by omega)]
  rw [q5,q6,e3];exact ⟨rfl,rfl⟩
attribute [push_cast] S.sw E.sw PV.sw Ob.sw swT swN
end Go.Proofs.YtmbbkfffcflfcaaGreatDoor
