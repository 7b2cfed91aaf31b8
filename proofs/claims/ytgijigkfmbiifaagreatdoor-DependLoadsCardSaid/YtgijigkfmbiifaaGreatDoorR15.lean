/- What the program computes, and the plain laws of it, part 15. -/
import Derived.Shelf.Strings.Builder1
import Derived.Shelf.Strings.Builder2
import Derived.Shelf.Strings.OnBuilder
import Derived.Shelf.Small.Utf8
import Derived.Shelf.Small.Strs
import Derived.Shelf.Small.Wraps
import Derived.Shelf.Utf8.RuneCount
import Derived.Shelf.Strings.Search1
import Derived.Shelf.Strings.Search2
import Derived.Shelf.Strings.Search3
import Derived.Shelf.Strings.Count
import Derived.Shelf.Strings.Shaped
import Derived.Shelf.Strings.Prefix
import Derived.Shelf.Strings.Split
import Derived.Shelf.Strings.Replace
import Derived.Shelf.Strings.SplitShaped
import Derived.Shelf.Unicode.Latin
import Derived.Shelf.Unicode.Decode
import Derived.Shelf.Strings.Runes
import Derived.Shelf.Strings.RuneCount
import Derived.Shelf.Strings.IndexAny
import Derived.Shelf.Strings.AsciiSet
import Derived.Shelf.Strings.IndexAnyAll
import Derived.Shelf.Strings.Explode
import Derived.Shelf.Unicode.DecodeSlow
import Derived.Shelf.Unicode.DecodeAny
import Derived.Shelf.Unicode.CaseLookup
import Derived.Shelf.Unicode.CaseConvert
import Derived.Shelf.Unicode.CaseTo
import Derived.Shelf.Unicode.CaseLaid
import Derived.Shelf.Slices.Turned
import Derived.Shelf.Slices.CompactS
import Derived.Shelf.Slices.Delete
import Derived.Shelf.Slices.Cells
import Derived.Shelf.Slices.Empties
import Derived.Shelf.SortM.Plain
import Derived.Shelf.SortM.SortNone
import Derived.Shelf.SlIter.Nil
import Derived.Test.YtgijigkfmbiifaaGreatDoorProg
import Derived.Test.YtgijigkfmbiifaaGreatDoorR14
namespace Go.Proofs.YtgijigkfmbiifaaGreatDoor
attribute [local irreducible] PL QL PWPr PCalls Weak RetK Kontr PA
open Go.RowKit
open IntWalk renaming iteOmega → iO, toNatUp → tN
set_option linter.unusedVariables false
set_option linter.unusedSimpArgs false
set_option maxRecDepth 20000
theorem index_pure (l:List ByteArray) (s:ByteArray) (hl:l.length≤1000000000) :
  PCalls Tryz.prog 51 [.c (.sl 1 (l.map strD)),.c (.v (.string s))] [] fun r os=>∃ k:Int,((k = -1∧s ∉ l)∨∃ i:Nat,k=i∧i < l.length∧l.getD i default=s)∧r = .c (.v (.int .i64 k))∧os=[]:=by
 refine pcalls_of Tryz.func51 rfl (by simp [Tryz.ntmps51]) ?_
 rw [Tryz.ntmps51,Tryz.results51]
 push_cast [iO,tN]
 repeat' (first|((first|refine pG ?_|refine pQ ?_|refine pU ?_);push_cast [iO,tN])|(refine pif (fun h=>?_) (fun h=>?_)<;>first|exact pN h|push_cast [iO,tN]))
 refine pwp_loop2 (α:=Nat) (fun k=>k≤l.length∧s ∉ l.take k) (fun k=>⟨[(8,.c (.v (.int .i64 k))),(7,.c (.v (.int .i64 l.length))),(6,.c (.sl 1 (l.map strD))),(0,.c (.sl 1 (l.map strD))),(1,.c (.v (.string s)))],[]⟩) (fun k=>l.length - k) 0 ⟨by omega,by simp⟩ (by (refine weak_fg ?_;push_cast [iO,tN])) ?_
 rintro k ⟨hk,hpre⟩
 by_cases hlt:k < l.length
 ·have e1:=getD_lt l hlt
  repeat' (first|((first|refine pG ?_|refine pQ ?_|refine pU ?_);push_cast [iO,tN])|(refine pif (fun h=>?_) (fun h=>?_)<;>first|exact pN h|push_cast [iO,tN]))
  ·(refine retK_of [] ?_;push_cast [iO,tN])
   exact ⟨_,_,leP_refl _,leOs_refl _,k,.inr ⟨k,rfl,hlt,h.symm⟩,rfl,rfl⟩
  ·refine ⟨k+1,⟨by omega,?_⟩,by (refine weak_fg ?_;push_cast [iO,tN]),by omega⟩
   rw [List.take_succ_eq_append_getElem hlt]
   simp only [List.mem_append,List.mem_singleton,not_or]
   exact ⟨hpre,by rw [← e1];exact h⟩
 ·rw [List.take_of_length_le (by omega)] at hpre
  repeat' (first|((first|refine pG ?_|refine pQ ?_|refine pU ?_);push_cast [iO,tN])|(refine pif (fun h=>?_) (fun h=>?_)<;>first|exact pN h|push_cast [iO,tN]))
  (refine retK_of [] ?_;push_cast [iO,tN])
  exact ⟨_,_,leP_refl _,leOs_refl _,-1,.inl ⟨rfl,hpre⟩,rfl,rfl⟩
theorem containsD_pure (l:List ByteArray) (s:ByteArray) (hl:l.length≤1000000000) :
  PCalls Tryz.prog 32 [.c (.sl 1 (l.map strD)),.c (.v (.string s))] [] fun r os=>r = .c (.v (.bool (inM s l)))∧os=[]:=by
 refine pcalls_of Tryz.func32 rfl (by simp [Tryz.ntmps32]) ?_
 rw [Tryz.ntmps32,Tryz.results32]
 push_cast [iO,tN]
 repeat' (first |  (refine plc [] (index_pure l s hl) ?_ ?_;push_cast [iO,tN];rintro r os ⟨k,hk,rfl,rfl⟩;push_cast [iO,tN])  | ((first|refine pG ?_|refine pQ ?_|refine pU ?_);push_cast [iO,tN])|(refine pif (fun h=>?_) (fun h=>?_)<;>first|exact pN h|push_cast [iO,tN]))
 (refine retK_of [] ?_;push_cast [iO,tN])
 rcases hk with ⟨rfl,h⟩|⟨i,rfl,hi,rfl⟩
 ·rw [inM_false.2 h];rfl
 ·rw [inM_iff.2 (by rw [getD_lt l hi];exact List.getElem_mem _)];simp
theorem delete_pure (l:List ByteArray) (i:Nat) (hi:i < l.length) (hl:l.length≤1000000000) :
  PCalls Tryz.prog 34 [.c (.own 0 l.length),.c (.v (.int .i64 i)),.c (.v (.int .i64 (i+1)))] [.arr 9 1 (l.map strD)] fun r os=>r = .c (.own 0 (l.length - 1))∧os=[.arr 9 1 ((l.take i++(l.drop (i+1)++[(⟨#[]⟩:ByteArray)])).map strD)]:=by
 refine pcalls_of Tryz.func34 rfl (by simp [Tryz.ntmps34]) ?_
 rw [Tryz.ntmps34,Tryz.results34]
 have e1:i+(l.length - (i+1))=l.length - 1:=by omega
 push_cast [iO,tN]
 repeat' (first|((refine pwp_drawn_to ⟨[(7,.c (.v (.int .i64 l.length))),(0,.c (.own 0 (l.length - 1)))],[.arr 9 1 ((l.map strD).take i++((l.map strD).drop (i+1)++(l.map strD).drop (l.length - 1)))]⟩ (by kernel_rfl) ?_ ?_;(focus (simp only [List.length_cons,List.length_nil,Nat.reduceAdd];(repeat' first|((first|refine pah 0 ?_|refine pah 1 ?_|refine pah 2 ?_|refine pah 3 ?_|refine pah 4 ?_|refine pah 5 ?_|refine pah 7 ?_);push_cast [iO,tN,  e1 ])|(refine pad ?_;refine weak_fg ?_;push_cast [iO,tN,  e1 ])|((first|refine pas [6] ?_);push_cast [iO,tN,  e1 ]));done));push_cast [iO,tN,  e1 ]))|((first|refine pG ?_|refine pQ ?_|refine pU ?_);push_cast [iO,tN,e1])|(refine pif (fun h=>?_) (fun h=>?_)<;>first|exact pN h|push_cast [iO,tN,e1]))
 (refine retK_of [0] ?_;push_cast [iO,tN])
 have h1:l.length - (l.length - 1)=1:=by omega
 have h2:((l.map strD).take i++(l.map strD).drop (i+1)).length=l.length - 1:=by simp;omega
 have h3:((l.map strD).take i++((l.map strD).drop (i+1)++(l.map strD).drop (l.length - 1)))=((l.map strD).take i++(l.map strD).drop (i+1))++(l.map strD).drop (l.length - 1):=by rw [List.append_assoc]
 have h4:(((l.map strD).take i++(l.map strD).drop (i+1))++(l.map strD).drop (l.length - 1)).drop (l.length - 1+1)=[]:=List.drop_eq_nil_of_le (by simp only [List.length_append,List.length_take,List.length_drop,List.length_map];omega)
 rw [h1,h3,List.take_left' h2,h4]
 simp [List.map_take,List.map_drop,List.append_assoc,strD]
def Pred (P:Program) (g:FuncId) (ks:List Nat) (os:List Ob) (l:List ByteArray) (q:ByteArray → Bool):Prop:=bodyOk P g=true∧∀ x ∈ l,PCalls P g (.c (.v (.string x)) :: ks.map fun k=>.c (.ptr k 0)) os fun r os'=>r = .c (.v (.bool (q x)))∧os'=os
def idxQ (q:ByteArray → Bool) (l:List ByteArray) (k:Int):Prop:=(k = -1∧∀ x ∈ l,q x=false)∨∃ i:Nat,k=i∧i < l.length∧q (l.getD i default)=true∧∀ x ∈ l.take i,q x=false
theorem allSome_ptr:∀ ks:List Nat,allSome (ks.map fun k=>some (PV.c (.ptr k 0))) (ks.map fun k=>PV.c (.ptr k 0))
 | []=>trivial
 | k :: ks=>⟨leP_refl _,allSome_ptr ks⟩
theorem indexFunc_pure (l:List ByteArray) (hl:l.length≤1000000000) (g:FuncId) (ks:List Nat) (rest:List Ob) (q:ByteArray → Bool) (hp:Pred Tryz.prog g ks (.arr 9 1 (l.map strD) :: rest) l q) :
  PCalls Tryz.prog 33 [.c (.own 0 l.length),.c (.fn (.func g) [] ks)] (.arr 9 1 (l.map strD) :: rest) fun r os=>∃ k,idxQ q l k∧r = .c (.v (.int .i64 k))∧os = .arr 9 1 (l.map strD) :: rest:=by
 refine pcalls_of_all Tryz.func33 rfl (by simp [Tryz.ntmps33]) ?_
 rw [Tryz.ntmps33,Tryz.results33]
 push_cast [iO,tN]
 repeat' (first|((first|refine pG ?_|refine pQ ?_|refine pU ?_);push_cast [iO,tN])|(refine pif (fun h=>?_) (fun h=>?_)<;>first|exact pN h|push_cast [iO,tN]))
 refine pwp_loop2 (α:=Nat) (fun k=>k≤l.length∧∀ x ∈ l.take k,q x=false) (fun k=>⟨[(8,.c (.v (.int .i64 k))),(7,.c (.v (.int .i64 l.length))),(6,.c (.own 0 l.length)),(0,.c (.own 0 l.length)),(1,.c (.fn (.func g) [] ks))],.arr 9 1 (l.map strD) :: rest⟩) (fun k=>l.length - k) 0 ⟨by omega,by simp⟩ (weak_slots (by push_cast [iO,tN]) rfl) ?_
 rintro k ⟨hk,hpre⟩
 by_cases hlt:k < l.length
 ·have hm:l.getD k default ∈ l:=by rw [getD_lt l hlt];exact List.getElem_mem _
  have hc:=hp.2 _ hm
  have hpre2:q (l.getD k default)=false → ∀ x ∈ l.take (k+1),q x=false:=fun h x hx=>by
   rw [List.take_succ_eq_append_getElem hlt] at hx
   rcases List.mem_append.1 hx with hx|hx
   ·exact hpre x hx
   ·simp at hx;subst hx;rw [← getD_lt l hlt];exact h
  cases hq:q (l.getD k default)
  all_goals rw [hq] at hc
  all_goals repeat' (first |  (refine pl_call_all rfl (by push_cast [iO,tN]) rfl hp.1 (by push_cast [iO,tN]) ?_ hc ?_;(focus (unfold callArgs;push_cast [iO,tN];exact allSome_ptr ks));rintro r os ⟨rfl,rfl⟩;refine pl_of_pops ?_;push_cast [iO,tN])  | ((first|refine pG ?_|refine pQ ?_|refine pU ?_);push_cast [iO,tN])|(refine pif (fun h=>?_) (fun h=>?_)<;>first|exact pN h|push_cast [iO,tN]))
  ·exact ⟨k+1,⟨by omega,hpre2 hq⟩,weak_slots (by push_cast [iO,tN]) rfl,by omega⟩
  ·exact ⟨_,rfl,by push_cast [iO,tN],k,.inr ⟨k,rfl,hlt,hq,hpre⟩,rfl,rfl⟩
 ·rw [List.take_of_length_le (by omega)] at hpre
  repeat' (first|((first|refine pG ?_|refine pQ ?_|refine pU ?_);push_cast [iO,tN])|(refine pif (fun h=>?_) (fun h=>?_)<;>first|exact pN h|push_cast [iO,tN]))
  exact ⟨_,rfl,by push_cast [iO,tN],-1,.inl ⟨rfl,hpre⟩,rfl,rfl⟩
def wmL:List Mod:=[⟨⟨#[104,105,100]⟩,[⟨#[117,115,98,58,118,49,42]⟩],[],[],[],false⟩,⟨⟨#[110,105,99]⟩,[⟨#[112,99,105,58,100,50]⟩,⟨#[117,115,98,58,118,50]⟩],[⟨#[99,111,114,101]⟩],[],[],false⟩,⟨⟨#[99,111,114,101]⟩,[],[],[],[⟨#[101,120,116,114,97]⟩],false⟩,⟨⟨#[101,120,116,114,97]⟩,[],[],[⟨#[104,105,100]⟩],[],false⟩,⟨⟨#[111,116,104,101,114]⟩,[⟨#[117,115,98,58,42]⟩],[],[⟨#[101,120,116,114,97]⟩],[],false⟩,⟨⟨#[98,97,100]⟩,[⟨#[112,99,105,58,42]⟩],[],[],[],true⟩,⟨⟨#[114,105,110,103]⟩,[],[⟨#[114,105,110,103,50]⟩],[],[],false⟩,⟨⟨#[114,105,110,103,50]⟩,[],[⟨#[114,105,110,103]⟩],[],[],false⟩]
set_option maxHeartbeats 2000000 in
theorem wmods_pure (L:List Int) (k:Nat) (hk:k < 2000) (hL:∀ x ∈ L,-9223372036854775808≤x∧x≤9223372036854775807) (hl:L.length≤9223372036854775807) :
  PCalls Tryz.prog 45 [.c (.ptr 0 0)] [tape L k] fun r os=>∃ l:List Mod,l.Sublist wmL∧r = .c (.sl 6 (l.map Mod.d))∧os=[tape L (k+8)]:=by
 refine pcalls_of Tryz.func45 rfl (by simp [Tryz.ntmps45]) ?_
 rw [Tryz.ntmps45,Tryz.results45]
 push_cast [iO,tN]
 repeat' (first|((first|refine pG ?_|refine pQ ?_|refine pU ?_);push_cast [iO,tN])|(refine pif (fun h=>?_) (fun h=>?_)<;>first|exact pN h|push_cast [iO,tN]))
 refine pwp_weak (weak_rows 3 (wmL.map Mod.d) rfl (by simp [wmL,Mod.d,leRows,leDs,leD,isEmp,strD])) ?_
 refine pwp_weak (weak_adopt 4 52 6 (by omega) (by push_cast [iO,tN])) ?_
 push_cast [iO,tN]
 refine pwp_loop2 (α:=Nat × List Mod) (fun x=>x.1≤8∧x.2.Sublist (wmL.take x.1)) (fun x=>⟨[(5,.c (.v (.int .i64 x.1))),(4,.c (.own 1 x.2.length)),(3,.c (.sl 6 (wmL.map Mod.d))),(0,.c (.ptr 0 0))],[tape L (k+x.1),.arr 52 6 (x.2.map Mod.d)]⟩) (fun x=>8 - x.1) (0,[]) ⟨by simp,by simp⟩ (by (refine weak_fg ?_;push_cast [iO,tN]);try omega) ?_
 rintro ⟨i,l⟩ ⟨hi,hs⟩
 simp only at hi hs
 have h8:wmL.length=8:=rfl
 have hll:=hs.length_le
 rw [List.length_take] at hll
 by_cases hlt:i < 8
 ·obtain ⟨hb,hc⟩:=fold_bds (tapeAt L (k+i)) 4 (by omega)
  obtain ⟨v,hv⟩:∃ v,fold (tapeAt L (k+i)) 4=v:=⟨_,rfl⟩
  rw [hv] at hb hc
  have hst:wmL.take (i+1)=wmL.take i++[wmL[i]]:=List.take_succ_eq_append_getElem (by omega)
  by_cases h0:0 < v
  all_goals repeat' (first|(refine plc [0] (next_pure L (k+i) 4 (by omega) (by omega) hL hl) ?_ ?_;push_cast [iO,tN,hv,h8];rintro r os ⟨rfl,rfl⟩;push_cast [iO,tN,hv,h8])|((first|refine pG ?_|refine pQ ?_|refine pU ?_);push_cast [iO,tN,hv,h8])|(refine pif (fun h=>?_) (fun h=>?_)<;>first|exact pN h|push_cast [iO,tN,hv,h8]))
  ·refine ⟨(i+1,l++[wmL.getD i default]),⟨by simp only;omega,?_⟩,by (refine weak_fg ?_;push_cast [iO,tN]);try omega,by simp only;omega⟩
   simp only [hst]
   rw [getD_lt wmL (by omega)]
   exact hs.append (List.Sublist.refl _)
  ·exact ⟨(i+1,l),⟨by simp only;omega,by simp only [hst];exact hs.trans (List.sublist_append_left _ _)⟩,by (refine weak_fg ?_;push_cast [iO,tN]);try omega,by simp only;omega⟩
 ·have h:i=8:=by omega
  subst h
  have he:=List.take_of_length_le (l:=l.map Mod.d) (i:=l.length) (by simp)
  repeat' (first|((first|refine pG ?_|refine pQ ?_|refine pU ?_);push_cast [iO,tN,h8])|(refine pif (fun h=>?_) (fun h=>?_)<;>first|exact pN h|push_cast [iO,tN,h8]))
  (refine retK_of [0] ?_;push_cast [iO,tN])
  exact ⟨.c (.sl 6 (l.map Mod.d)),[tape L (k+8)],by first|exact ⟨rfl,rfl⟩|(rw [he];exact ⟨rfl,rfl⟩),by push_cast [iO,tN],l,hs.trans (List.take_sublist _ _),rfl,rfl⟩
end Go.Proofs.YtgijigkfmbiifaaGreatDoor
namespace Go.Proofs.YtgijigkfmbiifaaGreatDoor
open Go.Shelf
set_option maxHeartbeats 1000000
def lays159_ren:Go.Shelf.Ren:=⟨fun|159=>122|165=>152|166=>153|167=>154|169=>155|230=>156|204=>157|240=>180|241=>181|197=>182|118=>183|168=>184|270=>185|262=>186|276=>197|277=>198|260=>199|242=>200|313=>201|278=>206|274=>207|275=>208|n=>n,fun|9=>9|4=>4|3=>3|5=>5|72=>206|0=>0|76=>210|75=>209|107=>215|70=>203|20=>20|37=>204|127=>228|21=>21|105=>229|164=>239|162=>245|203=>243|119=>247|46=>97|139=>250|138=>249|51=>130|160=>251|208=>263|206=>261|80=>213|n=>n,fun|13=>1|3=>2|4=>3|n=>n⟩
theorem lays159:Go.Proofs.Lays.n159 Tryz.prog lays159_ren:={
 mixed:=by kernel_rfl
 f118:=Tryz.func183.trans (congrArg some (by kernel_rfl))
 f159:=Tryz.func122.trans (congrArg some (by kernel_rfl))
 f165:=Tryz.func152.trans (congrArg some (by kernel_rfl))
 f166:=Tryz.func153.trans (congrArg some (by kernel_rfl))
 f167:=Tryz.func154.trans (congrArg some (by kernel_rfl))
 f168:=Tryz.func184.trans (congrArg some (by kernel_rfl))
 f169:=Tryz.func155.trans (congrArg some (by kernel_rfl))
 f197:=Tryz.func182.trans (congrArg some (by kernel_rfl))
 f204:=Tryz.func157.trans (congrArg some (by kernel_rfl))
 f230:=Tryz.func156.trans (congrArg some (by kernel_rfl))
 f240:=Tryz.func180.trans (congrArg some (by kernel_rfl))
 f241:=Tryz.func181.trans (congrArg some (by kernel_rfl))
 f242:=Tryz.func200.trans (congrArg some (by kernel_rfl))
 f260:=Tryz.func199.trans (congrArg some (by kernel_rfl))
 f262:=Tryz.func186.trans (congrArg some (by kernel_rfl))
 f270:=Tryz.func185.trans (congrArg some (by kernel_rfl))
 f274:=Tryz.func207.trans (congrArg some (by kernel_rfl))
 f275:=Tryz.func208.trans (congrArg some (by kernel_rfl))
 f276:=Tryz.func197.trans (congrArg some (by kernel_rfl))
 f277:=Tryz.func198.trans (congrArg some (by kernel_rfl))
 f278:=Tryz.func206.trans (congrArg some (by kernel_rfl))
 f313:=Tryz.func201.trans (congrArg some (by kernel_rfl))
 t0:=Tryz.underlying0
 a0:=Tryz.isAgg0
 z0:=Tryz.sizeOf0
 v0:=Tryz.zeroValue0
 t3:=Tryz.underlying3
 a3:=Tryz.isAgg3
 z3:=Tryz.sizeOf3
 v3:=Tryz.zeroValue3
 t4:=Tryz.underlying4
 a4:=Tryz.isAgg4
 z4:=Tryz.sizeOf4
 v4:=Tryz.zeroValue4
 t5:=Tryz.underlying5
 a5:=Tryz.isAgg5
 z5:=Tryz.sizeOf5
 v5:=Tryz.zeroValue5
 t9:=Tryz.underlying9
 a9:=Tryz.isAgg9
 z9:=Tryz.sizeOf9
 v9:=Tryz.zeroValue9
 t20:=Tryz.underlying20
 a20:=Tryz.isAgg20
 z20:=Tryz.sizeOf20
 v20:=Tryz.zeroValue20
 t21:=Tryz.underlying21
 a21:=Tryz.isAgg21
 z21:=Tryz.sizeOf21
 v21:=Tryz.zeroValue21
 t37:=Tryz.underlying204
 a37:=Tryz.isAgg204
 z37:=Tryz.sizeOf204
 v37:=Tryz.zeroValue204
 t46:=Tryz.underlying97
 a46:=Tryz.isAgg97
 z46:=Tryz.sizeOf97
 v46:=Tryz.zeroValue97
 t51:=Tryz.underlying130
 a51:=Tryz.isAgg130
 z51:=Tryz.sizeOf130
 v51:=Tryz.zeroValue130
 t70:=Tryz.underlying203
 a70:=Tryz.isAgg203
 z70:=Tryz.sizeOf203
 v70:=Tryz.zeroValue203
 t72:=Tryz.underlying206
 a72:=Tryz.isAgg206
 z72:=Tryz.sizeOf206
 v72:=Tryz.zeroValue206
 t75:=Tryz.underlying209
 a75:=Tryz.isAgg209
 z75:=Tryz.sizeOf209
 v75:=Tryz.zeroValue209
 t76:=Tryz.underlying210
 a76:=Tryz.isAgg210
 z76:=Tryz.sizeOf210
 v76:=Tryz.zeroValue210
 t105:=Tryz.underlying229
 a105:=Tryz.isAgg229
 z105:=Tryz.sizeOf229
 v105:=Tryz.zeroValue229
 t107:=Tryz.underlying215
 a107:=Tryz.isAgg215
 z107:=Tryz.sizeOf215
 v107:=Tryz.zeroValue215
 t119:=Tryz.underlying247
 a119:=Tryz.isAgg247
 z119:=Tryz.sizeOf247
 t127:=Tryz.underlying228
 a127:=Tryz.isAgg228
 z127:=Tryz.sizeOf228
 v127:=Tryz.zeroValue228
 t138:=Tryz.underlying249
 a138:=Tryz.isAgg249
 z138:=Tryz.sizeOf249
 v138:=Tryz.zeroValue249
 t139:=Tryz.underlying250
 a139:=Tryz.isAgg250
 z139:=Tryz.sizeOf250
 v139:=Tryz.zeroValue250
 t160:=Tryz.underlying251
 a160:=Tryz.isAgg251
 z160:=Tryz.sizeOf251
 v160:=Tryz.zeroValue251
 t162:=Tryz.underlying245
 a162:=Tryz.isAgg245
 z162:=Tryz.sizeOf245
 v162:=Tryz.zeroValue245
 t164:=Tryz.underlying239
 a164:=Tryz.isAgg239
 z164:=Tryz.sizeOf239
 v164:=Tryz.zeroValue239
 t203:=Tryz.underlying243
 a203:=Tryz.isAgg243
 z203:=Tryz.sizeOf243
 v203:=Tryz.zeroValue243
 t206:=Tryz.underlying261
 a206:=Tryz.isAgg261
 z206:=Tryz.sizeOf261
 v206:=Tryz.zeroValue261
 t208:=Tryz.underlying263
 a208:=Tryz.isAgg263
 z208:=Tryz.sizeOf263
 v208:=Tryz.zeroValue263
 g3:=by kernel_rfl
 g4:=by kernel_rfl
 g13:=by kernel_rfl }
theorem Builder_Extra_159:Builder.Extra Tryz.prog lays159_ren:={
 sizeBuilder:=by kernel_rfl
 liesBuilder:=by kernel_rfl
 t5:=Tryz.underlying5
 a5:=Tryz.isAgg5
 z5:=Tryz.sizeOf5
 v5:=Tryz.zeroValue5
 infoByte:=by kernel_rfl
 cellsByte:=by kernel_rfl
 sizeByte:=by kernel_rfl
 neB5:=by decide }
open Go.RowKit in
theorem strings_ToLower_ascii (s:ByteArray) (w:World) (hs:s.size≤140737488355328) (hascii:∀ (j:Nat) (b:UInt8),s.data.toList[j]? = some b → b.toNat < 128) :
  Calls Tryz.prog 122 #[.string s] w fun e w'=>e = .returned (.string ⟨(Lib.toLowerA s.data.toList).toArray⟩)∧Below w.heap.size w w':=Any.strings_ToLower_ascii lays159 Builder_Extra_159 s w hs hascii
def lays99_ren:Go.Shelf.Ren:=⟨fun|99=>178|206=>196|n=>n,fun|9=>9|4=>4|3=>3|n=>n,fun|n=>n⟩
theorem lays99:Go.Proofs.Lays.n99 Tryz.prog lays99_ren:={
 mixed:=by kernel_rfl
 f99:=Tryz.func178.trans (congrArg some (by kernel_rfl))
 f206:=Tryz.func196.trans (congrArg some (by kernel_rfl))
 t3:=Tryz.underlying3
 a3:=Tryz.isAgg3
 z3:=Tryz.sizeOf3
 v3:=Tryz.zeroValue3
 t4:=Tryz.underlying4
 a4:=Tryz.isAgg4
 z4:=Tryz.sizeOf4
 v4:=Tryz.zeroValue4
 t9:=Tryz.underlying9
 a9:=Tryz.isAgg9
 z9:=Tryz.sizeOf9
 v9:=Tryz.zeroValue9 }
open Go.RowKit Go.Lib in
theorem strings_HasPrefix (s p:ByteArray) (w:World) :
  Calls Tryz.prog 178 #[.string s,.string p] w fun e w'=>e = .returned (.bool (Lib.hasPrefix s.data.toList p.data.toList))∧w'=w:=Any.strings_HasPrefix lays99 s p w
def lays194_ren:Go.Shelf.Ren:=⟨fun|194=>26|n=>n,fun|31=>27|9=>9|3=>3|4=>4|0=>0|n=>n,fun|n=>n⟩
theorem lays194:Go.Proofs.Lays.n194 Tryz.prog lays194_ren:={
 mixed:=by kernel_rfl
 f194:=Tryz.func26.trans (congrArg some (by kernel_rfl))
 t0:=Tryz.underlying0
 a0:=Tryz.isAgg0
 z0:=Tryz.sizeOf0
 v0:=Tryz.zeroValue0
 t3:=Tryz.underlying3
 a3:=Tryz.isAgg3
 z3:=Tryz.sizeOf3
 v3:=Tryz.zeroValue3
 t4:=Tryz.underlying4
 a4:=Tryz.isAgg4
 z4:=Tryz.sizeOf4
 v4:=Tryz.zeroValue4
 t9:=Tryz.underlying9
 a9:=Tryz.isAgg9
 z9:=Tryz.sizeOf9
 v9:=Tryz.zeroValue9
 t31:=Tryz.underlying27
 a31:=Tryz.isAgg27
 z31:=Tryz.sizeOf27
 v31:=Tryz.zeroValue27 }
open Go.RowKit Go.Lib Go.Sort in
theorem slices_Compact_string (blk off cap:Nat) (zs:List (List UInt8)) (w:World) (hH:Holds encStr w blk off zs.toArray) (hsz:zs.length≤9223372036854775807) (hcap:zs.length≤cap) :
  Calls Tryz.prog 26 #[.slice (some ⟨blk,off,none⟩) zs.length cap] w fun e w'=>e = .returned (.slice (some ⟨blk,off,none⟩) (Lib.compact zs).length cap)∧∃ q,w'=putRow encStr (Sort.ahead w q) blk off (Lib.compact zs++List.replicate (zs.length - (Lib.compact zs).length) []).toArray:=Any.slices_Compact_string lays194 blk off cap zs w hH hsz hcap
open Go.RowKit Go.Lib Go.Sort in
theorem slices_Compact_string_empty (a:Option Addr) (cap:Nat) (w:World) :
  Calls Tryz.prog 26 #[.slice a 0 cap] w fun e w'=>e = .returned (.slice a 0 cap)∧w'=w:=Any.slices_Compact_string_empty lays194 a cap w
def laysSlM6_f25_ren:Go.Shelf.Ren:=⟨fun|6=>25|8=>50|9=>49|19=>86|20=>87|21=>77|22=>78|23=>79|24=>80|25=>81|26=>82|27=>83|28=>84|29=>85|36=>114|31=>115|32=>116|37=>117|38=>118|39=>119|41=>149|n=>n,fun|27=>27|29=>9|3=>3|32=>97|26=>27|0=>0|44=>130|46=>132|4=>4|36=>122|35=>121|41=>127|5=>5|9=>9|53=>158|57=>162|63=>193|64=>194|n=>n,fun|n=>n⟩
theorem laysSlM6_f25:Go.Proofs.SlLaysM.n6 Tryz.prog laysSlM6_f25_ren:={
 mixed:=by kernel_rfl
 f6:=⟨Tryz.f25.name,by decide,Tryz.func25.trans (congrArg some (by kernel_rfl))⟩
 f8:=Tryz.func50.trans (congrArg some (by kernel_rfl))
 f9:=⟨Tryz.f49.name,by decide,Tryz.func49.trans (congrArg some (by kernel_rfl))⟩
 f19:=Tryz.func86.trans (congrArg some (by kernel_rfl))
 f20:=Tryz.func87.trans (congrArg some (by kernel_rfl))
 f21:=⟨Tryz.f77.name,by decide,Tryz.func77.trans (congrArg some (by kernel_rfl))⟩
 f22:=⟨Tryz.f78.name,by decide,Tryz.func78.trans (congrArg some (by kernel_rfl))⟩
 f23:=⟨Tryz.f79.name,by decide,Tryz.func79.trans (congrArg some (by kernel_rfl))⟩
 f24:=⟨Tryz.f80.name,by decide,Tryz.func80.trans (congrArg some (by kernel_rfl))⟩
 f25:=⟨Tryz.f81.name,by decide,Tryz.func81.trans (congrArg some (by kernel_rfl))⟩
 f26:=⟨Tryz.f82.name,by decide,Tryz.func82.trans (congrArg some (by kernel_rfl))⟩
 f27:=⟨Tryz.f83.name,by decide,Tryz.func83.trans (congrArg some (by kernel_rfl))⟩
 f28:=⟨Tryz.f84.name,by decide,Tryz.func84.trans (congrArg some (by kernel_rfl))⟩
 f29:=⟨Tryz.f85.name,by decide,Tryz.func85.trans (congrArg some (by kernel_rfl))⟩
 f31:=Tryz.func115.trans (congrArg some (by kernel_rfl))
 f32:=Tryz.func116.trans (congrArg some (by kernel_rfl))
 f36:=⟨Tryz.f114.name,by decide,Tryz.func114.trans (congrArg some (by kernel_rfl))⟩
 f37:=⟨Tryz.f117.name,by decide,Tryz.func117.trans (congrArg some (by kernel_rfl))⟩
 f38:=⟨Tryz.f118.name,by decide,Tryz.func118.trans (congrArg some (by kernel_rfl))⟩
 f39:=⟨Tryz.f119.name,by decide,Tryz.func119.trans (congrArg some (by kernel_rfl))⟩
 f41:=⟨Tryz.f149.name,by decide,Tryz.func149.trans (congrArg some (by kernel_rfl))⟩
 t0:=Tryz.underlying0
 a0:=Tryz.isAgg0
 z0:=Tryz.sizeOf0
 v0:=Tryz.zeroValue0
 t3:=Tryz.underlying3
 a3:=Tryz.isAgg3
 z3:=Tryz.sizeOf3
 v3:=Tryz.zeroValue3
 t4:=Tryz.underlying4
 a4:=Tryz.isAgg4
 z4:=Tryz.sizeOf4
 v4:=Tryz.zeroValue4
 t5:=Tryz.underlying5
 a5:=Tryz.isAgg5
 z5:=Tryz.sizeOf5
 v5:=Tryz.zeroValue5
 t9:=Tryz.underlying9
 a9:=Tryz.isAgg9
 z9:=Tryz.sizeOf9
 v9:=Tryz.zeroValue9
 t26:=Tryz.underlying27
 a26:=Tryz.isAgg27
 z26:=Tryz.sizeOf27
 v26:=Tryz.zeroValue27
 t27:=Tryz.underlying27
 a27:=Tryz.isAgg27
 z27:=Tryz.sizeOf27
 v27:=Tryz.zeroValue27
 t29:=Tryz.underlying9
 a29:=Tryz.isAgg9
 z29:=Tryz.sizeOf9
 v29:=Tryz.zeroValue9
 t32:=Tryz.underlying97
 a32:=Tryz.isAgg97
 z32:=Tryz.sizeOf97
 v32:=Tryz.zeroValue97
 t35:=Tryz.underlying121
 a35:=Tryz.isAgg121
 z35:=Tryz.sizeOf121
 v35:=Tryz.zeroValue121
 t36:=Tryz.underlying122
 a36:=Tryz.isAgg122
 z36:=Tryz.sizeOf122
 v36:=Tryz.zeroValue122
 t41:=Tryz.underlying127
 a41:=Tryz.isAgg127
 z41:=Tryz.sizeOf127
 v41:=Tryz.zeroValue127
 t44:=Tryz.underlying130
 a44:=Tryz.isAgg130
 z44:=Tryz.sizeOf130
 v44:=Tryz.zeroValue130
 t46:=Tryz.underlying132
 a46:=Tryz.isAgg132
 z46:=Tryz.sizeOf132
 v46:=Tryz.zeroValue132
 t53:=Tryz.underlying158
 a53:=Tryz.isAgg158
 z53:=Tryz.sizeOf158
 v53:=Tryz.zeroValue158
 t57:=Tryz.underlying162
 a57:=Tryz.isAgg162
 z57:=Tryz.sizeOf162
 v57:=Tryz.zeroValue162
 t63:=Tryz.underlying193
 a63:=Tryz.isAgg193
 z63:=Tryz.sizeOf193
 v63:=Tryz.zeroValue193
 t64:=Tryz.underlying194
 a64:=Tryz.isAgg194
 z64:=Tryz.sizeOf194
 v64:=Tryz.zeroValue194 }
def keys22_ren:Go.Shelf.Ren:=⟨fun|7=>22|10=>48|n=>n,fun|23=>56|26=>9|3=>4|28=>62|0=>0|27=>61|33=>65|4=>4|n=>n,fun|n=>n⟩
theorem keys22:Go.Proofs.SlLaysZ.n7 Tryz.prog keys22_ren:={
 mixed:=by kernel_rfl
 f7:=⟨Tryz.f22.name,by decide,Tryz.func22.trans (congrArg some (by kernel_rfl))⟩
 f10:=⟨Tryz.f48.name,by decide,Tryz.func48.trans (congrArg some (by kernel_rfl))⟩
 t0:=Tryz.underlying0
 a0:=Tryz.isAgg0
 z0:=Tryz.sizeOf0
 v0:=Tryz.zeroValue0
 t4:=Tryz.underlying4
 a4:=Tryz.isAgg4
 z4:=Tryz.sizeOf4
 v4:=Tryz.zeroValue4
 t23:=Tryz.underlying56
 a23:=Tryz.isAgg56
 z23:=Tryz.sizeOf56
 v23:=Tryz.zeroValue56
 t26:=Tryz.underlying9
 a26:=Tryz.isAgg9
 z26:=Tryz.sizeOf9
 v26:=Tryz.zeroValue9
 t27:=Tryz.underlying61
 a27:=Tryz.isAgg61
 z27:=Tryz.sizeOf61
 v27:=Tryz.zeroValue61
 t28:=Tryz.underlying62
 a28:=Tryz.isAgg62
 z28:=Tryz.sizeOf62
 v28:=Tryz.zeroValue62
 t33:=Tryz.underlying65
 a33:=Tryz.isAgg65
 z33:=Tryz.sizeOf65
 v33:=Tryz.zeroValue65 }
def sorted21_ren:Go.Shelf.Ren:=⟨fun|6=>21|8=>47|9=>25|11=>76|13=>50|12=>49|23=>86|24=>87|14=>77|15=>78|16=>79|17=>80|18=>81|19=>82|20=>83|21=>84|22=>85|25=>114|26=>115|27=>116|28=>117|29=>118|30=>119|31=>149|n=>n,fun|26=>9|28=>62|24=>27|0=>0|3=>3|37=>97|48=>130|50=>132|4=>4|40=>122|39=>121|45=>127|5=>5|9=>9|51=>158|55=>162|57=>193|58=>194|33=>65|n=>n,fun|n=>n⟩
theorem sorted21:Go.Proofs.SlLaysZ.n6 Tryz.prog sorted21_ren:={
 mixed:=by kernel_rfl
 f6:=⟨Tryz.f21.name,by decide,Tryz.func21.trans (congrArg some (by kernel_rfl))⟩
 f8:=⟨Tryz.f47.name,by decide,Tryz.func47.trans (congrArg some (by kernel_rfl))⟩
 f11:=⟨Tryz.f76.name,by decide,Tryz.func76.trans (congrArg some (by kernel_rfl))⟩
 t0:=Tryz.underlying0
 a0:=Tryz.isAgg0
 z0:=Tryz.sizeOf0
 v0:=Tryz.zeroValue0
 t24:=Tryz.underlying27
 a24:=Tryz.isAgg27
 z24:=Tryz.sizeOf27
 v24:=Tryz.zeroValue27
 t26:=Tryz.underlying9
 a26:=Tryz.isAgg9
 z26:=Tryz.sizeOf9
 v26:=Tryz.zeroValue9
 t28:=Tryz.underlying62
 a28:=Tryz.isAgg62
 z28:=Tryz.sizeOf62
 v28:=Tryz.zeroValue62
 i26:=by kernel_rfl }
def sort25_ren:Go.Shelf.Ren:=⟨fun|6=>25|8=>50|9=>49|19=>86|20=>87|21=>77|22=>78|23=>79|24=>80|25=>81|26=>82|27=>83|28=>84|29=>85|36=>114|31=>115|32=>116|37=>117|38=>118|39=>119|41=>149|n=>n,fun|27=>27|29=>9|3=>3|32=>97|26=>27|0=>0|44=>130|46=>132|4=>4|36=>122|35=>121|41=>127|5=>5|9=>9|53=>158|57=>162|63=>193|64=>194|n=>n,fun|n=>n⟩
theorem sort25:Go.Proofs.SlLaysM.n6 Tryz.prog sort25_ren:={
 mixed:=by kernel_rfl
 f6:=⟨Tryz.f25.name,by decide,Tryz.func25.trans (congrArg some (by kernel_rfl))⟩
 f8:=Tryz.func50.trans (congrArg some (by kernel_rfl))
 f9:=⟨Tryz.f49.name,by decide,Tryz.func49.trans (congrArg some (by kernel_rfl))⟩
 f19:=Tryz.func86.trans (congrArg some (by kernel_rfl))
 f20:=Tryz.func87.trans (congrArg some (by kernel_rfl))
 f21:=⟨Tryz.f77.name,by decide,Tryz.func77.trans (congrArg some (by kernel_rfl))⟩
 f22:=⟨Tryz.f78.name,by decide,Tryz.func78.trans (congrArg some (by kernel_rfl))⟩
 f23:=⟨Tryz.f79.name,by decide,Tryz.func79.trans (congrArg some (by kernel_rfl))⟩
 f24:=⟨Tryz.f80.name,by decide,Tryz.func80.trans (congrArg some (by kernel_rfl))⟩
 f25:=⟨Tryz.f81.name,by decide,Tryz.func81.trans (congrArg some (by kernel_rfl))⟩
 f26:=⟨Tryz.f82.name,by decide,Tryz.func82.trans (congrArg some (by kernel_rfl))⟩
 f27:=⟨Tryz.f83.name,by decide,Tryz.func83.trans (congrArg some (by kernel_rfl))⟩
 f28:=⟨Tryz.f84.name,by decide,Tryz.func84.trans (congrArg some (by kernel_rfl))⟩
 f29:=⟨Tryz.f85.name,by decide,Tryz.func85.trans (congrArg some (by kernel_rfl))⟩
 f31:=Tryz.func115.trans (congrArg some (by kernel_rfl))
 f32:=Tryz.func116.trans (congrArg some (by kernel_rfl))
 f36:=⟨Tryz.f114.name,by decide,Tryz.func114.trans (congrArg some (by kernel_rfl))⟩
 f37:=⟨Tryz.f117.name,by decide,Tryz.func117.trans (congrArg some (by kernel_rfl))⟩
 f38:=⟨Tryz.f118.name,by decide,Tryz.func118.trans (congrArg some (by kernel_rfl))⟩
 f39:=⟨Tryz.f119.name,by decide,Tryz.func119.trans (congrArg some (by kernel_rfl))⟩
 f41:=⟨Tryz.f149.name,by decide,Tryz.func149.trans (congrArg some (by kernel_rfl))⟩
 t0:=Tryz.underlying0
 a0:=Tryz.isAgg0
 z0:=Tryz.sizeOf0
 v0:=Tryz.zeroValue0
 t3:=Tryz.underlying3
 a3:=Tryz.isAgg3
 z3:=Tryz.sizeOf3
 v3:=Tryz.zeroValue3
 t4:=Tryz.underlying4
 a4:=Tryz.isAgg4
 z4:=Tryz.sizeOf4
 v4:=Tryz.zeroValue4
 t5:=Tryz.underlying5
 a5:=Tryz.isAgg5
 z5:=Tryz.sizeOf5
 v5:=Tryz.zeroValue5
 t9:=Tryz.underlying9
 a9:=Tryz.isAgg9
 z9:=Tryz.sizeOf9
 v9:=Tryz.zeroValue9
 t26:=Tryz.underlying27
 a26:=Tryz.isAgg27
 z26:=Tryz.sizeOf27
 v26:=Tryz.zeroValue27
 t27:=Tryz.underlying27
 a27:=Tryz.isAgg27
 z27:=Tryz.sizeOf27
 v27:=Tryz.zeroValue27
 t29:=Tryz.underlying9
 a29:=Tryz.isAgg9
 z29:=Tryz.sizeOf9
 v29:=Tryz.zeroValue9
 t32:=Tryz.underlying97
 a32:=Tryz.isAgg97
 z32:=Tryz.sizeOf97
 v32:=Tryz.zeroValue97
 t35:=Tryz.underlying121
 a35:=Tryz.isAgg121
 z35:=Tryz.sizeOf121
 v35:=Tryz.zeroValue121
 t36:=Tryz.underlying122
 a36:=Tryz.isAgg122
 z36:=Tryz.sizeOf122
 v36:=Tryz.zeroValue122
 t41:=Tryz.underlying127
 a41:=Tryz.isAgg127
 z41:=Tryz.sizeOf127
 v41:=Tryz.zeroValue127
 t44:=Tryz.underlying130
 a44:=Tryz.isAgg130
 z44:=Tryz.sizeOf130
 v44:=Tryz.zeroValue130
 t46:=Tryz.underlying132
 a46:=Tryz.isAgg132
 z46:=Tryz.sizeOf132
 v46:=Tryz.zeroValue132
 t53:=Tryz.underlying158
 a53:=Tryz.isAgg158
 z53:=Tryz.sizeOf158
 v53:=Tryz.zeroValue158
 t57:=Tryz.underlying162
 a57:=Tryz.isAgg162
 z57:=Tryz.sizeOf162
 v57:=Tryz.zeroValue162
 t63:=Tryz.underlying193
 a63:=Tryz.isAgg193
 z63:=Tryz.sizeOf193
 v63:=Tryz.zeroValue193
 t64:=Tryz.underlying194
 a64:=Tryz.isAgg194
 z64:=Tryz.sizeOf194
 v64:=Tryz.zeroValue194 }
open Go.RowKit Go.Maps Go.Sort Go.Shelf in
theorem sorts21 (m:Nat):AnyZ.SortsIn Tryz.prog sorted21_ren Fence.wide m :=
 ⟨fun blk off cap ss W hH hblk hsz=>callsIn_wide.2 (AnyM.slices_Sort_string sort25 blk off cap ss W hH hblk hsz),
  fun p cap W=>callsIn_wide.2 (AnyM.slices_Sort_string_none sort25 p cap W)⟩
end Go.Proofs.YtgijigkfmbiifaaGreatDoor
