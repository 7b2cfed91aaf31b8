/- What the program computes, and the plain laws of it, part 48. -/
import Derived.WideKeyEntry
import Derived.Lib.ItoaNum
import Derived.Test.YtmbbkfffcflfcaaGreatDoorS42
import Derived.Test.YtmbbkfffcflfcaaGreatDoorS47
namespace Go.Proofs.YtmbbkfffcflfcaaGreatDoor
attribute [local irreducible] PL QL PWPr PCalls Weak RetK Kontr PA PCallsG
open Go.RowKit
open IntWalk renaming iteOmega → O, toNatUp → U
set_option linter.unusedVariables false
set_option linter.unusedSimpArgs false
set_option maxRecDepth 20000
theorem backw_pure (l:List Dev):PCalls Tryz.prog 142 [.c (.sl 10 (l.map Dev.d))] [] fun r os=>r = .c (.fn (.func 177) [] [0])∧os=[.box 39 [.sl 10 (l.map Dev.d)]]:=by
 refine pcalls_of Tryz.func142 rfl (by simp [Tryz.ntmps142]) ?_
 rw [Tryz.ntmps142,Tryz.results142]
 push_cast [O,U]
 repeat' ((first|refine pG ?_|refine pQ ?_|refine pU ?_|refine pif ?_ ?_<;>intro h<;>try exact pN h)<;>push_cast [O,U])
 (refine retK_of [0] ?_;push_cast [O,U])
def evD (l sub:List Dev) (j:Nat):List Evt:=remE l (sub.drop j).reverse
theorem evD_step {l sub:List Dev} {j:Nat} (hj:j < sub.length):evD l sub j=evD l sub (j+1)++[⟨0,2,(sub.getD j default).index,pathM l (sub.getD j default).index,⟨#[]⟩⟩]:=by
 unfold evD remE
 rw [List.drop_eq_getElem_cons hj,List.reverse_cons,List.map_append,getD_lt sub hj]
 rfl
theorem evD_end (l sub:List Dev):evD l sub sub.length=[]:=by unfold evD remE;simp
theorem evD_len (l sub:List Dev) (j:Nat):(evD l sub j).length≤sub.length:=by
 unfold evD remE
 rw [List.length_map,List.length_reverse,List.length_drop]
 omega
set_option maxHeartbeats 8000000 in
theorem krem_pure (k:Ker) (op:Opr) (d:Dev) (hB:KerB k) (hd:d ∈ k.tree) (hn:k.evs.length+300≤1000000) :
  PCallsG 1 Tryz.prog 97 [.c (.ptr 0 0),.agg op.e,.agg d.e] (kerO k) fun r os=>r = .c (.v (.int .i64 ((k.remove d).2)))∧os=kerO (k.remove d).1:=by
 have hkt:=hB.len
 have hs:=tsub_pure k.tree d.index hB.okp (by omega) hB.att
 have hsl:=subt_len k.tree d.index
 rw [remove_tells,show (k.remove d).2=0 from rfl]
 have hrm:=remove_pure k.tree d.index hB.okp (by rw [findD_mem hB.inv.tree.okt.nodup hd];rfl) (by omega) hB.att
 obtain ⟨K1,hK1⟩:∃ K1,k.withT (remT k.tree d.index)=K1:=⟨_,rfl⟩
 have e1:remT k.tree d.index=K1.tree:=by rw [← hK1];rfl
 have e2:k.mods=K1.mods:=by rw [← hK1];rfl
 have e3:k.loaded=K1.loaded:=by rw [← hK1];rfl
 have e4:k.evs=K1.evs:=by rw [← hK1];rfl
 have e5:k.top=K1.top:=by rw [← hK1];rfl
 rw [e1] at hrm
 rw [hK1]
 obtain ⟨sub,hsub⟩:∃ sub,subtM k.tree d.index=sub:=⟨_,rfl⟩
 rw [hsub] at hs hsl ⊢
 have hem:=kemit_pure K1 (evD k.tree sub 0) (by have:=evD_len k.tree sub 0;rw [← e4];omega)
 have he0:remE k.tree sub.reverse=evD k.tree sub 0:=by unfold evD;rw [List.drop_zero]
 rw [he0]
 have hbw:=backw_pure sub
 refine pcalls_ofG 1 (by simp [kerO]) Tryz.func97 rfl (by simp [Tryz.ntmps97]) (by rintro r os ⟨rfl,rfl⟩;simp [kerO]) ?_
 rw [Tryz.ntmps97,Tryz.results97]
 push_cast [O,U]
 have cB:CutB 12 [19]:=trivial
 repeat' ((first|(refine pwp_cut 12 [19] ?_;apply pwp_drawn_to;(focus kernel_rfl);(focus (simp only [List.length_cons,List.length_nil,Nat.reduceAdd];(repeat' first|((refine plE [] hs ?_ ?_<;>push_cast [O,U]))|((refine plE [] hbw ?_ ?_<;>push_cast [O,U]))|((first|refine pah 1 ?_|refine pah 2 ?_|refine pah 4 ?_);push_cast [O,U])|(refine pad ?_;first|with_reducible exact weak_cutS 12 [19] _|(refine weak_fg ?_;push_cast [O,U]))|((first|refine pas [0] ?_|refine pas [3] ?_|refine pas [5] ?_|refine pas [6] ?_|refine pas [7] ?_);push_cast [O,U])|((first|refine pas [0,3] ?_|refine pas [0,5] ?_|refine pas [3,5] ?_);push_cast [O,U];refine ⟨?_,?_⟩));done));push_cast [O,U])|(refine pwp_seq fun K hK=>?_)|(refine pwp_block ?_)|refine pC ?_|refine pQC ?_|refine pU ?_|refine pif ?_ ?_<;>intro h<;>try exact pN h)<;>push_cast [O,U])
 refine pwp_range (R:=fun lo r os'=>∃ L2 t2,os'=[kerB 1 2 k,kerL k,kerV k,.box 35 [.ptr 0 0],.box 55 op.e,.box 53 d.e,.box 42 [.own 9 (evD k.tree sub 0).length],.box 39 [.sl 10 (sub.map Dev.d)],.loop lo L2 t2,.arr 69 5 ((evD k.tree sub 0).map Evt.d)]∧L2.st = .ready∧L2.pd=none) rfl (by kernel_rfl) (fun lo D fn=>?_) (fun lo r os' hR=>?_)
 ·refine pcalls_of_all Tryz.func177 rfl (by simp [Tryz.ntmps177]) ?_
  rw [Tryz.ntmps177,Tryz.results177]
  push_cast [O,U]
  refine pwp_weak (weak_adopt_box 6 0 69 5 (by omega) 42 [.v (.slice none 0 0)] rfl rfl) ?_
  push_cast [O,U]
  have cB:CutB 4 []:=trivial
  repeat' ((first|refine pC ?_|refine pQC ?_|refine pU ?_|refine pif ?_ ?_<;>intro h<;>try exact pN h)<;>push_cast [O,U])
  (apply pwp_loop3 (α:=Nat) 4 [] (fun j=>[(3,.c (.v (.int .i64 ((j:Int) - 1))))]) (fun j=>[(6,.box 42 [.own 9 (evD k.tree sub j).length]),(9,.arr 69 5 ((evD k.tree sub j).map Evt.d))]) (fun j=>j≤sub.length) (fun j=>j) (sub.length);(focus ((try push_cast [O,U]);rfl));(focus exact (Nat.le_refl _));(focus ((refine weak_fg ?_;try push_cast [O,U]);(try (simp [evD_end])))))
  intro j hj
  push_cast [O,U]
  cases j with
  | zero =>
   repeat' ((first|refine pC ?_|refine pQC ?_|refine pU ?_|refine pif ?_ ?_<;>intro h<;>try exact pN h)<;>push_cast [O,U])
   exact ⟨_,rfl,by push_cast [O,U],_,_,rfl,rfl,rfl⟩
  | succ i =>
   have hlt:i < sub.length:=by omega
   have hji:((i+1:Nat):Int) - 1=(i:Int):=by omega
   have hji2:(i:Int)+1 - 1=(i:Int):=by omega
   have hst:=evD_step (l:=k.tree) hlt
   have hll:=evD_len k.tree sub (i+1)
   have hev:=kev_pure k 2 (sub.getD i default).index hB.inv.tree
   obtain ⟨acc,hacc⟩:∃ acc,evD k.tree sub (i+1)=acc:=⟨_,rfl⟩
   rw [hacc] at hst hll ⊢
   obtain ⟨x,hx⟩:∃ x,sub.getD i default=x:=⟨_,rfl⟩
   rw [hx] at hst hev
   repeat' ((first|refine pC ?_|refine pQC ?_|refine pU ?_|refine pif ?_ ?_<;>intro h<;>try exact pN h)<;>push_cast [O,U,hji,hji2,hx])
   refine pl_yield 8 (qs:=[.c (.v (.int .i64 i)),.agg x.e]) rfl rfl rfl (by push_cast [O,U,hji,hji2,hx]) rfl rfl (by push_cast [O,U,hji,hji2,hx]) rfl rfl ?_
   try dsimp only
   push_cast [O,U]
   have cB:CutB 12 [19,20,21]:=trivial
   repeat' ((first|refine pC ?_|refine pQC ?_|refine pU ?_|refine pif ?_ ?_<;>intro h<;>try exact pN h)<;>push_cast [O,U])
   simp only [asgQ]
   refine ⟨_,_,rfl,rfl,?_⟩
   try dsimp only
   repeat' ((first|(refine pwp_drawn (by kernel_rfl) ?_;try simp only [List.length_cons,List.length_nil,Nat.reduceAdd];repeat' first|((refine plE [0,1,2] hev ?_ ?_<;>push_cast [O,U]))|(refine pl_app2 (e:=69) (sz:=5) (by':=56) (rows:=acc.map Evt.d) (ys:=[Evt.d ⟨0,2,x.index,pathM k.tree x.index,⟨#[]⟩⟩]) 9 rfl (by push_cast [O,U]) (by push_cast [O,U]) (by push_cast [O,U]) (by push_cast [O,U]) (by omega) (by push_cast [O,U]) (by push_cast [O,U]) (by push_cast [O,U]) (by push_cast [O,U]) (by simp) (by push_cast [O,U];omega) (by push_cast [O,U];omega) ?_ ?_<;>(refine pl_of_pops ?_;push_cast [O,U]))|((first|refine pah 2 ?_);push_cast [O,U])|(refine pad ?_;try push_cast [O,U])|((first|refine pas [0] ?_|refine pas [1] ?_|refine pas [3] ?_|refine pas [4] ?_|refine pas [5] ?_|refine pas [6] ?_|refine pas [7] ?_);push_cast [O,U])|((first|refine pas [0,1] ?_|refine pas [0,3] ?_|refine pas [0,4] ?_|refine pas [0,5] ?_|refine pas [0,6] ?_|refine pas [0,7] ?_|refine pas [1,3] ?_|refine pas [1,4] ?_|refine pas [1,5] ?_|refine pas [1,6] ?_|refine pas [1,7] ?_|refine pas [3,4] ?_|refine pas [3,5] ?_|refine pas [3,6] ?_|refine pas [3,7] ?_|refine pas [4,5] ?_|refine pas [4,6] ?_|refine pas [4,7] ?_|refine pas [5,6] ?_|refine pas [5,7] ?_|refine pas [6,7] ?_);push_cast [O,U];refine ⟨?_,?_⟩)|((first|refine pas [0,1,3] ?_|refine pas [0,1,4] ?_|refine pas [0,1,5] ?_|refine pas [0,1,6] ?_|refine pas [0,1,7] ?_|refine pas [0,3,4] ?_|refine pas [0,3,5] ?_|refine pas [0,3,6] ?_|refine pas [0,3,7] ?_|refine pas [0,4,5] ?_|refine pas [0,4,6] ?_|refine pas [0,4,7] ?_|refine pas [0,5,6] ?_|refine pas [0,5,7] ?_|refine pas [0,6,7] ?_|refine pas [1,3,4] ?_|refine pas [1,3,5] ?_|refine pas [1,3,6] ?_|refine pas [1,3,7] ?_|refine pas [1,4,5] ?_|refine pas [1,4,6] ?_|refine pas [1,4,7] ?_|refine pas [1,5,6] ?_|refine pas [1,5,7] ?_|refine pas [1,6,7] ?_|refine pas [3,4,5] ?_|refine pas [3,4,6] ?_|refine pas [3,4,7] ?_|refine pas [3,5,6] ?_|refine pas [3,5,7] ?_|refine pas [3,6,7] ?_|refine pas [4,5,6] ?_|refine pas [4,5,7] ?_|refine pas [4,6,7] ?_|refine pas [5,6,7] ?_);push_cast [O,U];refine ⟨?_,?_,?_⟩))|refine pC ?_|refine pQC ?_|refine pU ?_|refine pif ?_ ?_<;>intro h<;>try exact pN h)<;>push_cast [O,U])
   all_goals simp only [yldQ]
   all_goals refine ⟨_,_,rfl,?_⟩
   all_goals push_cast [O,U]
   have cB:CutB 4 []:=trivial
   all_goals have cB4:CutB 4 []:=trivial
   all_goals first
    | (refine pl_of_pops ?_;push_cast [O,U,hji,hji2];(repeat' ((first|refine pC ?_|refine pQC ?_|refine pU ?_|refine pif ?_ ?_<;>intro h<;>try exact pN h)<;>push_cast [O,U,hji,hji2]));refine ⟨i,by omega,?_,by omega⟩;(refine weak_fg ?_;push_cast [O,U,hst,hji,hji2]);done)
    | (refine pl_weak (weak_sw 10 (by omega)) ?_;push_cast [O,U];refine pl_weak (weak_sw 9 (by omega)) ?_;push_cast [O,U];refine pl_of_pops ?_;push_cast [O,U,hji,hji2];(repeat' ((first|refine pC ?_|refine pQC ?_|refine pU ?_|refine pif ?_ ?_<;>intro h<;>try exact pN h)<;>push_cast [O,U,hji,hji2]));refine ⟨i,by omega,?_,by omega⟩;(refine weak_fg ?_;push_cast [O,U,hst,hji,hji2]);done)
 ·obtain ⟨L2,t2,rfl,h1,h2⟩:=hR
  refine ⟨L2,t2,rfl,by rw [h1];simp,?_⟩
  rw [h2]
  simp only [rngfQ]
  have cB:CutB 12 []:=trivial
  push_cast [O,U]
  refine pU ?_
  refine pwp_weak (weak_frz 9 (by omega)) ?_
  have htk:=List.take_of_length_le (l:=(evD k.tree sub 0).map Evt.d) (i:=(evD k.tree sub 0).length) (by simp)
  push_cast [O,U,htk]
  refine pwp_weak (s':=⟨[(7,.c (.ptr 6 0)),(6,.c (.v (.int .i64 0))),(5,.c (.ptr 5 0)),(4,.c (.ptr 4 0)),(3,.c (.ptr 3 0))],[kerB 1 2 k,kerL k,kerV k,.box 35 [.ptr 0 0],.box 55 op.e,.box 53 d.e,.box 42 [.sl 5 ((evD k.tree sub 0).map Evt.d)]]⟩) (by (refine weak_fg ?_;push_cast [O,U])) ?_
  push_cast [O,U,e2,e3,e4,e5]
  refine pwp_seq fun K hK=>?_
  repeat' ((first|(refine pwp_cut 12 [] ?_;apply pwp_drawn_to;(focus kernel_rfl);(focus (simp only [List.length_cons,List.length_nil,Nat.reduceAdd];(repeat' first|(refine plE [] hrm ?_ ?_<;>push_cast [O,U,  e2,e3,e4,e5])|((first|refine pah 1 ?_|refine pah 2 ?_|refine pah 4 ?_|refine pah 7 ?_|refine pah 8 ?_|refine pah 9 ?_|refine pah 12 ?_);push_cast [O,U,  e2,e3,e4,e5])|(refine pad ?_;first|with_reducible exact weak_cutS 12 [] _|(refine weak_fg ?_;push_cast [O,U,  e2,e3,e4,e5]))|((first|refine pas [0] ?_|refine pas [3] ?_|refine pas [5] ?_|refine pas [6] ?_|refine pas [10] ?_|refine pas [11] ?_);push_cast [O,U,  e2,e3,e4,e5])|((first|refine pas [0,5] ?_|refine pas [0,10] ?_|refine pas [3,5] ?_|refine pas [3,10] ?_|refine pas [5,10] ?_|refine pas [6,10] ?_);push_cast [O,U,  e2,e3,e4,e5];refine ⟨?_,?_⟩)|((first|refine pas [0,5,10] ?_|refine pas [3,5,10] ?_);push_cast [O,U,  e2,e3,e4,e5];refine ⟨?_,?_,?_⟩));done));push_cast [O,U,  e2,e3,e4,e5])|(refine plcG 1 [0,1,2] (hem) ?_ ?_;push_cast [O,U,e2,e3,e4,e5];rintro r os ⟨rfl,rfl⟩)|refine pC ?_|refine pQC ?_|refine pU ?_|refine pif ?_ ?_<;>intro h<;>try exact pN h)<;>push_cast [O,U,e2,e3,e4,e5])
  (refine retK_of [0,1,2] ?_;push_cast [O,U])
end Go.Proofs.YtmbbkfffcflfcaaGreatDoor
namespace Go.Proofs.YtmbbkfffcflfcaaGreatDoor
open Go.RowKit
open IntWalk renaming iteOmega → O, toNatUp → U
set_option linter.unusedVariables false
set_option linter.unusedSimpArgs false
theorem weak_vfn {N p:Nat} {s:S} (i:Nat) {f:Fn} (hi:s.get i=some (.c (.v (.func f #[] #[])))):Weak N p s ⟨(i,.c (.fn f [] [])) :: s.t,s.o⟩:=by
 intro Γ a w hA
 refine ⟨Γ,⟨⟨hA.inv.size,hA.inv.defers,fun j q hq=>?_,hA.inv.m⟩,hA.le⟩,Grow.refl _ _ _⟩
 simp only [S.get,look] at hq
 split at hq
 ·rename_i e
  subst e
  cases hq
  obtain ⟨h0,h⟩:=hA.inv.t _ _ hi
  refine ⟨h0,[],h.1,fun _=>trivial,fun k hk=>?_⟩
  cases hk
 ·exact hA.inv.t j q hq
section
variable {P:Program} {N p:Nat} {s:S} {o:Oper} {ops:Array Oper} {rest:List Oper} {K:S → Prop}
end
theorem pl_insert {P:Program} {N p:Nat} {ops:Array Oper} {o:Oper} {rest:List Oper} {s:S} {K:S → Prop} {t:TypeId} {m k x:Operand} (ho:o.op = .insert t m k x) (h:pops P N p ops ({ o with op:=.mapUpdate t m k x } :: rest) s K):PL P N p ops (o :: rest) s K:=fun Γ a w Q hA hQ=>by
 have h1:=pl_of_pops h Γ a w Q hA hQ
 have hE:execOp a.eval ({ o with op:=.mapUpdate t m k x }:Oper)=execOp a.eval o:=by simp [execOp,ho]
 have hb:({ o with op:=.mapUpdate t m k x }:Oper).about P w a.eval=o.about P w a.eval:=by simp [Oper.about,ho]
 unfold wpListIn at h1 ⊢
 have hw:Region.wanted ({ o with op:=.mapUpdate t m k x }:Oper) (yielded ops a.tmps)=Region.wanted o (yielded ops a.tmps):=rfl
 rw [hw] at h1
 split
 ·rename_i h2
  rw [if_pos h2] at h1
  unfold Oper.wpIn at h1 ⊢
  rw [show (Fw none).round=none from rfl,Oper.semAt_none] at h1 ⊢
  rw [hE,hb] at h1
  exact h1
 ·rename_i h2
  rw [if_neg h2] at h1
  rw [hb] at h1
  exact h1
end Go.Proofs.YtmbbkfffcflfcaaGreatDoor
namespace Go.Proofs.YtmbbkfffcflfcaaGreatDoor
attribute [local irreducible] PL QL PWPr PCalls Weak RetK Kontr PA PCallsG
open Go.RowKit
open IntWalk renaming iteOmega → O, toNatUp → U
set_option linter.unusedVariables false
set_option linter.unusedSimpArgs false
set_option maxRecDepth 20000
def opsE:List (MK × List D):=[(.i .i64 2,[.v (.func (.func 97) #[] #[])]),(.i .i64 3,[.v (.func (.func 98) #[] #[])]),(.i .i64 4,[.v (.func (.func 99) #[] #[])]),(.i .i64 5,[.v (.func (.func 100) #[] #[])]),(.i .i64 6,[.v (.func (.func 101) #[] #[])]),(.i .i64 7,[.v (.func (.func 102) #[] #[])])]
theorem opers_pure:PCalls Tryz.prog 56 [] [] fun r os=>r = .c (.mp 0)∧os=[.map (some .i64) false opsE]:=by
 refine pcalls_of Tryz.func56 rfl (by simp [Tryz.ntmps56]) ?_
 rw [Tryz.ntmps56,Tryz.results56]
 push_cast [O,U]
 repeat' ((first|(refine pl_insert rfl ?_)|refine pG ?_|refine pQ ?_|refine pU ?_|refine pif ?_ ?_<;>intro h<;>try exact pN h)<;>push_cast [O,U])
 (refine retK_of [0] ?_;push_cast [O,U])
 all_goals rfl
theorem kone_pure (k:Ker) (op:Opr) (d:Dev) (f:FuncId) (hB:KerB k) (ho:OprOk op) (hd:d ∈ k.tree) (hn:k.evs.length+300≤1000000) (hk:(op.kind=2∧f=97)∨(op.kind=3∧f=98)∨(op.kind=4∧f=99)∨(op.kind=5∧f=100)∨(op.kind=6∧f=101)∨(op.kind=7∧f=102)) :
  PCallsG 1 Tryz.prog f [.c (.ptr 0 0),.agg op.e,.agg d.e] (kerO k) fun r os=>r = .c (.v (.int .i64 ((k.one insAt3 op d).2)))∧os=kerO (k.one insAt3 op d).1:=by
 unfold Ker.one
 rcases hk with ⟨h,rfl⟩|⟨h,rfl⟩|⟨h,rfl⟩|⟨h,rfl⟩|⟨h,rfl⟩|⟨h,rfl⟩<;>rw [h]
 ·exact krem_pure k op d hB hd hn
 ·exact kset_pure k op d hB ho hd (by omega)
 ·exact ktrig_pure k op d hB (by omega)
 ·exact kren_pure k op d hB ho hd (by omega)
 ·exact kbind_pure k op d hB ho hd (by omega)
 ·exact kunbind_pure k op d hB hd (by omega)
def kerOp (k:Ker) (op:Opr):Ker × Int × Int:=k.doM insAt3 op
set_option maxHeartbeats 8000000 in
theorem kdo_pure (k:Ker) (op:Opr) (hB:KerB k) (ho:OprOk op) (hn:k.evs.length+300≤1000000) (ht:k.top+1≤1000000) :
  PCallsG 1 Tryz.prog 21 [.c (.ptr 0 0),.agg op.e] (kerO k) fun r os=>r = .two (.c (.v (.int .i64 ((kerOp k op).2.1)))) (.c (.v (.int .i64 ((kerOp k op).2.2))))∧os=kerO (kerOp k op).1:=by
 have hkt:=hB.len
 have hadd:=kadd_pure k op hB ho (by omega) ht
 have hlod:=kload_pure k op.value hB ho.value hn
 have hunl:=kunload_pure k op.value hB hn
 have hops:=opers_pure
 have hat:=at_pure k.tree op.path hB.okp (by omega) hB.orig hB.att
 obtain ⟨X,hX⟩:∃ X,kerOp k op=X:=⟨_,rfl⟩
 rw [hX]
 unfold kerOp Ker.doM at hX
 refine pcalls_ofG 1 (by simp [kerO]) Tryz.func21 rfl (by simp [Tryz.ntmps21]) (by rintro r os ⟨rfl,rfl⟩;simp [kerO]) ?_
 rw [Tryz.ntmps21,Tryz.results21]
 push_cast [O,U]
 have cB:CutB 9 [10,11,18,24]:=trivial
 by_cases k1:op.kind=1
 ·rw [if_pos k1] at hX
  rw [hX] at hadd
  repeat' ((first|(refine plcG 1 [0,1,2] (hadd) ?_ ?_;push_cast [O,U,k1];rintro r os ⟨rfl,rfl⟩)|refine pC ?_|refine pQC ?_|refine pU ?_|refine pif ?_ ?_<;>intro h<;>try exact pN h)<;>push_cast [O,U,k1])
  (refine retK_of [0,1,2] ?_;push_cast [O,U])
 rw [if_neg k1] at hX
 by_cases k8:op.kind=8
 ·rw [if_pos k8] at hX
  obtain ⟨Y,hY⟩:∃ Y,k.load op.value=Y:=⟨_,rfl⟩
  rw [hY] at hlod hX
  subst hX
  repeat' ((first|(refine plcG 1 [0,1,2] (hlod) ?_ ?_;push_cast [O,U,k8];rintro r os ⟨rfl,rfl⟩)|refine pC ?_|refine pQC ?_|refine pU ?_|refine pif ?_ ?_<;>intro h<;>try exact pN h)<;>push_cast [O,U,k8])
  (refine retK_of [0,1,2] ?_;push_cast [O,U])
 rw [if_neg k8] at hX
 by_cases k9:op.kind=9
 ·rw [if_pos k9] at hX
  obtain ⟨Y,hY⟩:∃ Y,k.unload op.value=Y:=⟨_,rfl⟩
  rw [hY] at hunl hX
  subst hX
  repeat' ((first|(refine plcG 1 [0,1,2] (hunl) ?_ ?_;push_cast [O,U,k9];rintro r os ⟨rfl,rfl⟩)|refine pC ?_|refine pQC ?_|refine pU ?_|refine pif ?_ ?_<;>intro h<;>try exact pN h)<;>push_cast [O,U,k9])
  (refine retK_of [0,1,2] ?_;push_cast [O,U])
 rw [if_neg k9] at hX
 by_cases kr:op.kind < 2∨7 < op.kind
 ·rw [if_pos kr] at hX
  subst hX
  have hno:mget opsE (.i .i64 op.kind)=none:=by
   unfold opsE
   simp only [mget]
   rw [if_neg (by simp only [MK.i.injEq,true_and];omega),if_neg (by simp only [MK.i.injEq,true_and];omega),if_neg (by simp only [MK.i.injEq,true_and];omega),if_neg (by simp only [MK.i.injEq,true_and];omega),if_neg (by simp only [MK.i.injEq,true_and];omega),if_neg (by simp only [MK.i.injEq,true_and];omega)]
  obtain ⟨OE,hOE⟩:∃ OE,opsE=OE:=⟨_,rfl⟩
  rw [hOE] at hno hops
  repeat' ((first|(refine pwp_cut 9 [10,11,18,24] ?_;apply pwp_drawn_to;(focus kernel_rfl);(focus (simp only [List.length_cons,List.length_nil,Nat.reduceAdd];(repeat' first|(refine plE [] hops ?_ ?_<;>push_cast [O,U,  k1,k8,k9,hno])|((first|refine pah 1 ?_|refine pah 4 ?_|refine pah 5 ?_|refine pah 6 ?_|refine pah 7 ?_|refine pah 8 ?_);push_cast [O,U,  k1,k8,k9,hno])|(refine pad ?_;first|with_reducible exact weak_cutS 9 [10,11,18,24] _|(refine weak_fg ?_;push_cast [O,U,  k1,k8,k9,hno]))|((first|refine pas [0] ?_|refine pas [2] ?_|refine pas [3] ?_);push_cast [O,U,  k1,k8,k9,hno])|((first|refine pas [0,2] ?_);push_cast [O,U,  k1,k8,k9,hno];refine ⟨?_,?_⟩));done));push_cast [O,U,  k1,k8,k9,hno])|refine pC ?_|refine pQC ?_|refine pU ?_|refine pif ?_ ?_<;>intro h<;>try exact pN h)<;>push_cast [O,U,k1,k8,k9,hno])
  (refine retK_of [0,1,2] ?_;push_cast [O,U])
 rw [if_neg kr] at hX
 have hf:∃ f,mget opsE (.i .i64 op.kind)=some [.v (.func (.func f) #[] #[])]∧((op.kind=2∧f=97)∨(op.kind=3∧f=98)∨(op.kind=4∧f=99)∨(op.kind=5∧f=100)∨(op.kind=6∧f=101)∨(op.kind=7∧f=102)):=by
  have h6:op.kind=2∨op.kind=3∨op.kind=4∨op.kind=5∨op.kind=6∨op.kind=7:=by omega
  rcases h6 with h|h|h|h|h|h<;>rw [h]<;>exact ⟨_,rfl,by simp⟩
 obtain ⟨f,hf,hk⟩:=hf
 have hbf:bodyOk Tryz.prog f=true:=by
  rcases hk with ⟨_,rfl⟩|⟨_,rfl⟩|⟨_,rfl⟩|⟨_,rfl⟩|⟨_,rfl⟩|⟨_,rfl⟩<;>kernel_rfl
 obtain ⟨OE,hOE⟩:∃ OE,opsE=OE:=⟨_,rfl⟩
 rw [hOE] at hf hops
 cases ha:atD k.tree op.path with
 | none =>
  rw [ha] at hX hat
  simp only [Option.getD_none,Option.isSome_none] at hat
  simp only at hX
  subst hX
  repeat' ((first|(refine pwp_cut 9 [10,11,18,24] ?_;apply pwp_drawn_to;(focus kernel_rfl);(focus (simp only [List.length_cons,List.length_nil,Nat.reduceAdd];(repeat' first|(refine plE [] hops ?_ ?_<;>push_cast [O,U,  k1,k8,k9,hf])|((first|refine pah 1 ?_|refine pah 4 ?_|refine pah 5 ?_|refine pah 6 ?_|refine pah 7 ?_|refine pah 8 ?_);push_cast [O,U,  k1,k8,k9,hf])|(refine pad ?_;first|with_reducible exact weak_cutS 9 [10,11,18,24] _|(refine weak_fg ?_;push_cast [O,U,  k1,k8,k9,hf]))|((first|refine pas [0] ?_|refine pas [2] ?_|refine pas [3] ?_);push_cast [O,U,  k1,k8,k9,hf])|((first|refine pas [0,2] ?_);push_cast [O,U,  k1,k8,k9,hf];refine ⟨?_,?_⟩));done));push_cast [O,U,  k1,k8,k9,hf])|(refine pwp_cut 9 [10,11,18,24] ?_;apply pwp_drawn_to;(focus kernel_rfl);(focus (simp only [List.length_cons,List.length_nil,Nat.reduceAdd];(repeat' first|(refine plE [] hat ?_ ?_<;>push_cast [O,U,  k1,k8,k9,hf])|((first|refine pah 0 ?_|refine pah 1 ?_|refine pah 2 ?_|refine pah 4 ?_|refine pah 7 ?_|refine pah 8 ?_|refine pah 9 ?_|refine pah 12 ?_);push_cast [O,U,  k1,k8,k9,hf])|(refine pad ?_;first|with_reducible exact weak_cutS 9 [10,11,18,24] _|(refine weak_fg ?_;push_cast [O,U,  k1,k8,k9,hf]))|((first|refine pas [3] ?_|refine pas [5] ?_|refine pas [6] ?_|refine pas [10] ?_|refine pas [11] ?_);push_cast [O,U,  k1,k8,k9,hf])|((first|refine pas [3,5] ?_|refine pas [3,10] ?_|refine pas [5,10] ?_|refine pas [6,10] ?_);push_cast [O,U,  k1,k8,k9,hf];refine ⟨?_,?_⟩)|((first|refine pas [3,5,10] ?_);push_cast [O,U,  k1,k8,k9,hf];refine ⟨?_,?_,?_⟩));done));push_cast [O,U,  k1,k8,k9,hf])|refine pC ?_|refine pQC ?_|refine pU ?_|refine pif ?_ ?_<;>intro h<;>try exact pN h)<;>push_cast [O,U,k1,k8,k9,hf])
  (refine retK_of [0,1,2] ?_;push_cast [O,U])
 | some d =>
  rw [ha] at hX hat
  simp only [Option.getD_some,Option.isSome_some] at hat
  simp only at hX
  have hone:=kone_pure k op d f hB ho (at_in ha) hn hk
  obtain ⟨Y,hY⟩:∃ Y,k.one insAt3 op d=Y:=⟨_,rfl⟩
  rw [hY] at hone hX
  subst hX
  repeat' ((first|(refine pwp_cut 9 [10,11,18,24] ?_;apply pwp_drawn_to;(focus kernel_rfl);(focus (simp only [List.length_cons,List.length_nil,Nat.reduceAdd];(repeat' first|(refine plE [] hops ?_ ?_<;>push_cast [O,U,  k1,k8,k9,hf])|((first|refine pah 1 ?_|refine pah 4 ?_|refine pah 5 ?_|refine pah 6 ?_|refine pah 7 ?_|refine pah 8 ?_);push_cast [O,U,  k1,k8,k9,hf])|(refine pad ?_;first|with_reducible exact weak_cutS 9 [10,11,18,24] _|(refine weak_fg ?_;push_cast [O,U,  k1,k8,k9,hf]))|((first|refine pas [0] ?_|refine pas [2] ?_|refine pas [3] ?_);push_cast [O,U,  k1,k8,k9,hf])|((first|refine pas [0,2] ?_);push_cast [O,U,  k1,k8,k9,hf];refine ⟨?_,?_⟩));done));push_cast [O,U,  k1,k8,k9,hf])|(refine hidR 11 ?_)|refine pC ?_|refine pQC ?_|refine pU ?_|refine pif ?_ ?_<;>intro h<;>try exact pN h)<;>push_cast [O,U,k1,k8,k9,hf])
  refine unhid ?_
  refine pwp_weak (weak_vfn 6 (f:=.func f) (by push_cast [O,U])) ?_
  push_cast [O,U]
  repeat' ((first|(refine pwp_cut 9 [10,11,18,24] ?_;apply pwp_drawn_to;(focus kernel_rfl);(focus (simp only [List.length_cons,List.length_nil,Nat.reduceAdd];(repeat' first|(refine plE [] hat ?_ ?_<;>push_cast [O,U,  k1,k8,k9,hf])|((first|refine pah 0 ?_|refine pah 1 ?_|refine pah 2 ?_|refine pah 4 ?_|refine pah 7 ?_|refine pah 8 ?_|refine pah 9 ?_|refine pah 12 ?_);push_cast [O,U,  k1,k8,k9,hf])|(refine pad ?_;first|with_reducible exact weak_cutS 9 [10,11,18,24] _|(refine weak_fg ?_;push_cast [O,U,  k1,k8,k9,hf]))|((first|refine pas [3] ?_|refine pas [5] ?_|refine pas [6] ?_|refine pas [10] ?_|refine pas [11] ?_);push_cast [O,U,  k1,k8,k9,hf])|((first|refine pas [3,5] ?_|refine pas [3,10] ?_|refine pas [5,10] ?_|refine pas [6,10] ?_);push_cast [O,U,  k1,k8,k9,hf];refine ⟨?_,?_⟩)|((first|refine pas [3,5,10] ?_);push_cast [O,U,  k1,k8,k9,hf];refine ⟨?_,?_,?_⟩));done));push_cast [O,U,  k1,k8,k9,hf])|(refine plcG 1 [0,1,2] (hone) ?_ ?_ (hb:=hbf);push_cast [O,U,k1,k8,k9,hf];rintro r os ⟨rfl,rfl⟩)|refine pC ?_|refine pQC ?_|refine pU ?_|refine pif ?_ ?_<;>intro h<;>try exact pN h)<;>push_cast [O,U,k1,k8,k9,hf])
  (refine retK_of [0,1,2] ?_;push_cast [O,U])
end Go.Proofs.YtmbbkfffcflfcaaGreatDoor
namespace Go.Proofs.YtmbbkfffcflfcaaGreatDoor
open Go.RowKit
open IntWalk renaming iteOmega → O, toNatUp → U
set_option linter.unusedVariables false
set_option linter.unusedSimpArgs false
def isPt (P:Program) (t:TypeId):Bool:=match P.underlying t with
 | some (.pointer _)=>true
 | _=>false
theorem isPt_ok {P:Program} {t:TypeId} (h:isPt P t=true):∃ e,P.underlying t=some (.pointer e):=by
 unfold isPt at h
 split at h
 ·exact ⟨_,by assumption⟩
 ·cases h
theorem run_ptrq {P:Program} {t:TypeId} (h:isPt P t=true) (w:World) (A:Option Addr) :
  (binOp .eql t (.pointer A) (.pointer none)).run P w = .ok (.bool A.isNone) w∧(binOp .neq t (.pointer A) (.pointer none)).run P w = .ok (.bool (!A.isNone)) w:=by
 obtain ⟨e,he⟩:=isPt_ok h
 have h1:∀ d,(Op.equalIn (d+1) t (.pointer A) (.pointer none)).run P w = .ok A.isNone w:=by intro d;cases A<;>simp [Op.equalIn,run_underlying he]
 exact run_binOp_eq t w (by simp) (by simp) (h1 9999)
section
variable {P:Program} {N p:Nat} {ops:Array Oper} {o:Oper} {rest:List Oper} {s:S} {K:S → Prop}
theorem pl_ptreq {t t':TypeId} {x z:Operand} {k off:Nat} (ho:o.op = .binOp .eql t x z t') (hg:gd ops s o.guard=some true) (hx:s.ev x=some (.c (.ptr k off))) (hz:s.ev z=some (.c (.v (.pointer none)))) (ht:isPt P t=true) (hd:dstOk N o.dst)
  (hK:PL P N p ops rest (s.put o.dst (.c (.v (.bool false)))) K):PL P N p ops (o :: rest) s K:=by
 refine pl_same (q:=.c (.v (.bool false))) hg (fun Γ a w hI=>?_) hd hK
 obtain ⟨_,hx1⟩:=S.ev_ok hx hI
 obtain ⟨hz1,_⟩:=S.ev_ok hz hI
 exact ⟨_,⟨rfl,rfl⟩,fun w' _=>by simp [execOp,ho,hx1,hz1,guard_scalar,(run_ptrq ht w' (some _)).1]⟩
end
end Go.Proofs.YtmbbkfffcflfcaaGreatDoor
namespace Go.Proofs.YtmbbkfffcflfcaaGreatDoor
attribute [local irreducible] PL QL PWPr PCalls Weak RetK Kontr PA PCallsG
open Go.RowKit
open IntWalk renaming iteOmega → O, toNatUp → U
set_option linter.unusedVariables false
set_option linter.unusedSimpArgs false
set_option maxRecDepth 20000
theorem newOk_all {l:List Mod} (h1:∀ m ∈ l,modB m=true) (h2:(l.map Mod.name).Nodup):∀ i,i≤l.length → newOk l i=true
 | 0,_=>rfl
 | i+1,h=>by
  have hlt:i < l.length:=by omega
  rw [newOk,newOk_all h1 h2 i (by omega),h1 _ (by rw [getD_lt l hlt];exact List.getElem_mem _)]
  have hn:(modOf (l.take i) (l.getD i default).name).isNone=true:=modOf_none fun m hm e=>by
   obtain ⟨j,hj,rfl⟩:=List.mem_take_iff_getElem.1 hm
   have hji:j < l.length:=by omega
   have:=(List.pairwise_iff_getElem.1 h2) j i (by rw [List.length_map];exact hji) (by rw [List.length_map];exact hlt) (by omega)
   rw [List.getElem_map,List.getElem_map] at this
   rw [getD_lt l hlt] at e
   exact this e
  rw [hn];rfl
def okMs (l:List Mod):Bool:=l.all fun m=>modB m && (decide (m.name.size≤100) && decide (m.aliases.length≤100) && decide (m.needs.length≤100) && decide (m.pre.length≤100) && decide (m.post.length≤100) && m.aliases.all (fun s=>decide (s.size≤100)) && m.needs.all (fun s=>decide (s.size≤100)) && m.pre.all (fun s=>decide (s.size≤100)) && m.post.all (fun s=>decide (s.size≤100)))
structure WMod (m:Mod):Prop where
 ok:modB m=true
 fit:ModFit m
 als:m.aliases.length≤100
 nds:m.needs.length≤100
 alz:∀ s ∈ m.aliases,s.size≤100
theorem okMs_w {l:List Mod} (h:okMs l=true):∀ m ∈ l,WMod m:=fun m hm=>by
 have h1:=List.all_eq_true.1 h m hm
 simp only [Bool.and_eq_true,decide_eq_true_eq,List.all_eq_true] at h1
 obtain ⟨h0,⟨⟨⟨⟨⟨⟨⟨⟨a,b⟩,c⟩,d⟩,e⟩,f⟩,g⟩,i⟩,j⟩⟩:=h1
 exact ⟨h0,⟨fit_of a (by decide),fun s hs=>fit_of (f s hs) (by decide),fun s hs=>fit_of (g s hs) (by decide),fun s hs=>fit_of (i s hs) (by decide),fun s hs=>fit_of (j s hs) (by decide),by omega,by omega,by omega,by omega⟩,b,c,f⟩
theorem wmL_ok:okMs wmL=true:=by decide +kernel
theorem wmL_nodup:(wmL.map Mod.name).Nodup:=by decide +kernel
structure StartM (l:List Mod):Prop where
 w:∀ m ∈ l,WMod m
 nd:(l.map Mod.name).Nodup
 len:l.length≤8
theorem StartM.of {l:List Mod} (h:l.Sublist wmL):StartM l :=
 ⟨fun m hm=>okMs_w wmL_ok m (h.subset hm),(h.map Mod.name).nodup wmL_nodup,h.length_le⟩
theorem StartM.new {l:List Mod} (h:StartM l):newB l=true:=by
 unfold newB
 rw [decide_eq_true (show l.length≤128 by have:=h.len;omega),newOk_all (fun m hm=>(h.w m hm).ok) h.nd l.length (Nat.le_refl _)]
 rfl
theorem modB_name {m:Mod} (h:modB m=true):validS m.name=true:=by
 rw [modB_names] at h
 simp only [Bool.and_eq_true] at h
 exact h.1.1.1.1.1
theorem StartM.ker {l:List Mod} (h:StartM l):KerB ⟨[],l,[],[],0⟩ :=
 ⟨KerI.new fun m hm=>modB_name (h.w m hm).ok,Nat.zero_le _,by have:=h.len;show l.length≤1000;omega,fun m hm=>by have:=(h.w m hm).als;have:=(h.w m hm).nds;omega,fun m hm p hp=>by have:=(h.w m hm).alz p hp;omega,by show (0:Int)≤1000000;decide⟩
def kn0:Ker:=⟨[],[⟨⟨#[104,105,100]⟩,[⟨#[117,115,98,58,42]⟩],[],[],[],false⟩],[],[],0⟩
def knO1:Opr:=⟨1,⟨#[]⟩,⟨0,0,⟨#[]⟩,⟨#[117,115,98,48]⟩,⟨#[117,115,98]⟩,⟨#[]⟩,⟨#[]⟩,1,0,[]⟩,⟨#[]⟩,⟨#[]⟩⟩
def knO2:Opr:=⟨1,⟨#[47,117,115,98,48]⟩,⟨0,0,⟨#[]⟩,⟨#[107,98,100]⟩,⟨#[117,115,98]⟩,⟨#[]⟩,⟨#[117,115,98,58,107]⟩,1,0,[]⟩,⟨#[]⟩,⟨#[]⟩⟩
def knO3:Opr:=⟨8,⟨#[]⟩,zeroD,⟨#[]⟩,⟨#[104,105,100]⟩⟩
attribute [push_cast] knO1 knO2 knO3
def kn1:Ker:=(kerOp kn0 knO1).1
def kn2:Ker:=(kerOp kn1 knO2).1
def kn3:Ker:=(kerOp kn2 knO3).1
theorem kn_res:(kerOp kn0 knO1).2=(1,0)∧(kerOp kn1 knO2).2=(2,0)∧(kerOp kn2 knO3).2.2=0∧kn1.evs.length=1∧kn2.evs.length=2∧kn3.evs.length=3∧kn1.top=1∧kn2.top=2∧kn3.evs.drop 2=[⟨3,5,2,⟨#[47,117,115,98,48,47,107,98,100]⟩,⟨#[]⟩⟩]:=by
 refine ⟨?_,?_,?_,?_,?_,?_,?_,?_,?_⟩<;>decide +kernel
theorem knewS {l:List Mod} (h:StartM l):PCalls Tryz.prog 16 [.c (.sl 6 (l.map Mod.d))] [] fun r os=>r = .two (.c (.ptr 0 0)) (.c (.v (.int .i64 0)))∧os=kerO ⟨[],l,[],[],0⟩ :=
 (knew_pure l (by have:=h.len;omega) fun m hm=>(h.w m hm).fit).mono fun r os h2=>by rw [if_pos h.new] at h2;exact h2
theorem rnewS {l:List Mod} (h:StartM l):PCalls Tryz.prog 17 [.c (.sl 6 (l.map Mod.d))] [] fun r os=>r = .two (.agg (Ker.re ⟨[],l,[],[],0⟩)) (.c (.v (.int .i64 0)))∧os=[] :=
 (rnew_pure l (by have:=h.len;omega) fun m hm=>(h.w m hm).fit).mono fun r os h2=>by rw [h.new] at h2;exact h2
theorem kn0_start:StartM kn0.mods:=⟨okMs_w (by decide +kernel),by decide +kernel,by decide⟩
theorem knO_ok:OprOk knO1∧OprOk knO2∧OprOk knO3 :=
 ⟨⟨⟨by decide,by decide,by decide,by decide,by decide,(fun a ha=>by cases ha),by decide,by decide⟩,by decide,by decide,by decide,by decide⟩,
  ⟨⟨by decide,by decide,by decide,by decide,by decide,(fun a ha=>by cases ha),by decide,by decide⟩,by decide,by decide,by decide,by decide⟩,
  ⟨zeroD_ok,by decide,by decide,by decide,by decide⟩⟩
set_option maxHeartbeats 8000000 in
theorem known05_pure:PCalls Tryz.prog 12 [] [] fun r os=>r = .c (.v (.bool true))∧os=[]:=by
 obtain ⟨r1,r2,r3,l1,l2,l3,t1,t2,hev⟩:=kn_res
 obtain ⟨o1,o2,o3⟩:=knO_ok
 have b0:KerB kn0:=kn0_start.ker
 have b1:KerB kn1:=b0.do insAt3 knO1 (by decide) (by decide)
 have b2:KerB kn2:=b1.do insAt3 knO2 (by omega) (by omega)
 have b3:KerB kn3:=b2.do insAt3 knO3 (by omega) (by omega)
 have hn:=knewS kn0_start
 have d1:=kdo_pure kn0 knO1 b0 o1 (by decide) (by decide)
 have d2:=kdo_pure kn1 knO2 b1 o2 (by omega) (by omega)
 have d3:=kdo_pure kn2 knO3 b2 o3 (by omega) (by omega)
 have hE:=kevents_pure kn3 2 (by decide) (by omega)
 rw [show since kn3 2=2 by unfold since;rw [if_neg (by decide),if_pos (by rw [l3];decide)];rfl,hev] at hE
 rw [r1] at d1
 rw [r2] at d2
 obtain ⟨v3,hv3⟩:∃ v3,(kerOp kn2 knO3).2.1=v3:=⟨_,rfl⟩
 rw [r3,hv3] at d3
 rw [show (kerOp kn0 knO1).1=kn1 from rfl] at d1
 rw [show (kerOp kn1 knO2).1=kn2 from rfl] at d2
 rw [show (kerOp kn2 knO3).1=kn3 from rfl] at d3
 refine pcalls_of Tryz.func12 rfl (by simp [Tryz.ntmps12]) ?_
 rw [Tryz.ntmps12,Tryz.results12]
 have hn2:PCalls Tryz.prog 16 [.c (.sl 6 (kn0.mods.map Mod.d))] [] fun r os=>r = .two (.c (.ptr 0 0)) (.c (.v (.int .i64 0)))∧os=kerO kn0:=hn
 generalize kn3=k3 at *
 generalize kn2=k2 at *
 generalize kn1=k1 at *
 push_cast [O,U]
 repeat' ((first|refine pG ?_|refine pQ ?_|refine pU ?_|refine pif ?_ ?_<;>intro h<;>try exact pN h)<;>push_cast [O,U])
 refine pl_weak (weak_rows 13 (kn0.mods.map Mod.d) rfl (by simp [kn0,Mod.d,leRows,leDs,leD,isEmp,strD])) ?_
 push_cast [O,U]
 (refine plE [] hn2 ?_ ?_<;>push_cast [O,U])
 refine pl_ptreq rfl rfl rfl rfl (by kernel_rfl) (by first|exact ⟨rfl,by decide⟩|(simp [dstOk])) (pl_of_pops ?_)
 push_cast [O,U]
 (refine plcG 1 [0,1,2] (d1) ?_ ?_;push_cast [O,U];rintro r os ⟨rfl,rfl⟩;push_cast [O,U])
 (refine plcG 1 [0,1,2] (d2) ?_ ?_;push_cast [O,U];rintro r os ⟨rfl,rfl⟩;push_cast [O,U])
 (refine plcG 1 [0,1,2] (d3) ?_ ?_;push_cast [O,U];rintro r os ⟨rfl,rfl⟩;push_cast [O,U])
 (refine plE [0,1,2] hE ?_ ?_<;>push_cast [O,U])
 repeat' ((first|refine pG ?_|refine pQ ?_|refine pU ?_|refine pif ?_ ?_<;>intro h<;>try exact pN h)<;>push_cast [O,U])
 (refine retK_of [] ?_;push_cast [O,U])
set_option maxRecDepth 20000
def playE (r:Ker):List E:=.ptr 0 0 :: .ptr 1 0 :: r.re
def playO (L:List Int) (q:Nat) (k:Ker):List Ob:=[tape L q,kerB 2 3 k,kerL k,kerV k]
attribute [push_cast] playE playO
def begK (l:List Mod):Ker:=⟨[],l,[],[],0⟩
attribute [push_cast] begK
set_option maxHeartbeats 4000000 in
theorem begin_pure (L:List Int) (hL:∀ x ∈ L,-9223372036854775808≤x∧x≤9223372036854775807) (hl:L.length≤9223372036854775807) :
  PCalls Tryz.prog 18 [.c (.sl 1 (L.map fun x=>[.v (.int .i64 x)]))] [] fun r os=>∃ l:List Mod,StartM l∧r = .agg (playE (begK l))∧os=playO L 8 (begK l):=by
 have hm:=wmods_pure L 0 (by decide) hL hl
 refine pcalls_of Tryz.func18 rfl (by simp [Tryz.ntmps18]) ?_
 rw [Tryz.ntmps18,Tryz.results18]
 push_cast [O,U]
 repeat' ((first|refine pG ?_|refine pQ ?_|refine pU ?_|refine pif ?_ ?_<;>intro h<;>try exact pN h)<;>push_cast [O,U])
 refine pl_call2 false [1] rfl rfl (by kernel_rfl) hm ?_ nofun ?_
 ·push_cast [O,U]
 rintro r os ⟨l,hs,rfl,rfl⟩
 have hS:=StartM.of hs
 have hn:=knewS hS
 have hr:=rnewS hS
 refine pl_of_pops ?_
 push_cast [O,U]
 repeat' ((first|refine plE [] hr ?_ ?_;focus (push_cast [O,U];done)|refine plE [] hn ?_ ?_;focus (push_cast [O,U];done)|refine pG ?_|refine pQ ?_|refine pU ?_|refine pif ?_ ?_<;>intro h<;>try exact pN h)<;>push_cast [O,U])
 (refine retK_of [1,3,4,5] ?_;push_cast [O,U])
 exact ⟨_,_,leP_refl _,leOs_refl _,l,hS,rfl,rfl⟩
end Go.Proofs.YtmbbkfffcflfcaaGreatDoor
