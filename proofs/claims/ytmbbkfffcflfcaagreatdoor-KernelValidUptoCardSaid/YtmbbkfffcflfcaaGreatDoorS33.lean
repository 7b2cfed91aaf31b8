/- What the program computes, and the plain laws of it, part 33. -/
import Derived.WideKeyEntry
import Derived.Lib.ItoaNum
import Derived.Test.YtmbbkfffcflfcaaGreatDoorS32
namespace Go.Proofs.YtmbbkfffcflfcaaGreatDoor
attribute [local irreducible] PL QL PWPr PCalls Weak RetK Kontr PA
open Go.RowKit
open IntWalk renaming iteOmega → O, toNatUp → U
set_option linter.unusedVariables false
set_option linter.unusedSimpArgs false
set_option maxRecDepth 20000
abbrev viewM (l:List Dev):List Ob:=[.map (some .i64) false (placeE l l.length),.map (some .i64) false (origE l l.length)]
theorem vfind_pure (l:List Dev) (n:Int) (h:Okp l) (hl:l.length≤1000) :
  PCalls Tryz.prog 109 [.agg [.sl 10 (l.map Dev.d),.mp 0,.mp 1],.c (.v (.int .i64 n))] (viewM l) fun r os=>r = .two (.agg ((findD l n).getD default).e) (.c (.v (.bool ((findD l n).isSome))))∧os=viewM l:=by
 rcases mget_placeE h n with ⟨h1,h2⟩|⟨j,hj,h1,h2⟩
 ·refine pcalls_of Tryz.func109 rfl (by simp [Tryz.ntmps109]) ?_
  rw [Tryz.ntmps109,Tryz.results109]
  push_cast [O,U]
  repeat' ((first|refine pG ?_|refine pQ ?_|refine pU ?_|refine pif ?_ ?_<;>intro h<;>try exact pN h)<;>push_cast [O,U,h1])
  (refine retK_of [0,1] ?_;push_cast [O,U,h2,Option.getD_none,Option.isSome_none])
  repeat' (first|exact rfl|exact leOs_refl _|exact trivial|refine ⟨?_,?_⟩)
 ·refine pcalls_of Tryz.func109 rfl (by simp [Tryz.ntmps109]) ?_
  rw [Tryz.ntmps109,Tryz.results109]
  push_cast [O,U]
  repeat' ((first|refine pG ?_|refine pQ ?_|refine pU ?_|refine pif ?_ ?_<;>intro h<;>try exact pN h)<;>push_cast [O,U,h1])
  (refine retK_of [0,1] ?_;push_cast [O,U,h2,Option.getD_some,Option.isSome_some])
  all_goals exact ⟨_,_,leP_refl _,leOs_refl _,rfl,rfl⟩
theorem up_pure (l:List Dev) (n:Int) :
  PCalls Tryz.prog 63 [.agg [.sl 10 (l.map Dev.d),.mp 0,.mp 1],.c (.v (.int .i64 n))] (viewM l) fun r os=>r = .c (.fn (.func 108) [] [2,3])∧os=[.map (some .i64) false (placeE l l.length),.map (some .i64) false (origE l l.length),.box 120 [.sl 10 (l.map Dev.d),.mp 0,.mp 1],.box 3 [.v (.int .i64 n)]]:=by
 refine pcalls_of Tryz.func63 rfl (by simp [Tryz.ntmps63]) ?_
 rw [Tryz.ntmps63,Tryz.results63]
 push_cast [O,U]
 repeat' ((first|refine pG ?_|refine pQ ?_|refine pU ?_|refine pif ?_ ?_<;>intro h<;>try exact pN h)<;>push_cast [O,U])
 (refine retK_of [0,1,2,3] ?_;push_cast [O,U])
theorem find1_pure (n:Int) (d:Dev):PCalls Tryz.prog 139 [.agg d.e,.c (.ptr 0 0)] [.box 3 [.v (.int .i64 n)]] fun r os=>r = .c (.v (.bool (decide (d.index=n))))∧os=[.box 3 [.v (.int .i64 n)]]:=by
 refine pcalls_of Tryz.func139 rfl (by simp [Tryz.ntmps139]) ?_
 rw [Tryz.ntmps139,Tryz.results139]
 push_cast [O,U]
 repeat' ((first|refine pG ?_|refine pQ ?_|refine pU ?_|refine pif ?_ ?_<;>intro h<;>try exact pN h)<;>push_cast [O,U])
 (refine retK_of [0] ?_;push_cast [O,U])
theorem firstF_pure (l:List Dev) (n:Int) (hl:l.length≤1000) (ha:∀ d ∈ l,d.attrs.length≤1000000000):PCalls Tryz.prog 103 [.agg (trE l),.c (.fn (.func 139) [] [0])] [.box 3 [.v (.int .i64 n)]] fun r os=>r = .two (.agg ((findD l n).getD default).e) (.c (.v (.bool ((findD l n).isSome))))∧os=[.box 3 [.v (.int .i64 n)]]:=by
 have hi:=indexFuncD_pure l (by omega) 139 [0] [.box 3 [.v (.int .i64 n)]] (fun d=>decide (d.index=n)) ⟨by kernel_rfl,fun x _=>find1_pure n x⟩
 refine pcalls_of Tryz.func103 rfl (by simp [Tryz.ntmps103]) ?_
 rw [Tryz.ntmps103,Tryz.results103]
 push_cast [O,U]
 repeat' ((first|refine pG ?_|refine pQ ?_|refine pU ?_|refine pif ?_ ?_<;>intro h<;>try exact pN h)<;>push_cast [O,U])
 (refine plc [0] (hi) ?_ ?_;push_cast [O,U];rintro r os ⟨k,hk,rfl,rfl⟩;push_cast [O,U])
 rcases hk with ⟨rfl,hn⟩|⟨i,rfl,hi2,hq,hpre⟩
 ·have hR:findD l n=none:=find_no hn
  repeat' ((first|refine pG ?_|refine pQ ?_|refine pU ?_|refine pif ?_ ?_<;>intro h<;>try exact pN h)<;>push_cast [O,U])
  (refine retK_of [0] ?_;push_cast [O,U,hR,Option.getD_none,Option.isSome_none])
  repeat' (first|exact rfl|exact leOs_refl _|exact trivial|refine ⟨?_,?_⟩)
 ·have hR:findD l n=some (l.getD i default):=find_at hi2 hq hpre
  have hcp:=copied_pure (l.getD i default) (ha _ (by rw [getD_lt l hi2];exact List.getElem_mem _))
  repeat' ((first|refine plE [] hcp ?_ ?_|refine pG ?_|refine pQ ?_|refine pU ?_|refine pif ?_ ?_<;>intro h<;>try exact pN h)<;>push_cast [O,U])
  (refine retK_of [0] ?_;push_cast [O,U,hR,Option.getD_some,Option.isSome_some])
  all_goals exact ⟨_,_,leP_refl _,leOs_refl _,rfl,rfl⟩
theorem tfind_pure (l:List Dev) (n:Int) (hl:l.length≤1000) (ha:∀ d ∈ l,d.attrs.length≤1000000000):PCalls Tryz.prog 90 [.agg (trE l),.c (.v (.int .i64 n))] [] fun r os=>r = .two (.agg ((findD l n).getD default).e) (.c (.v (.bool ((findD l n).isSome))))∧os=[]:=by
 have hf:=firstF_pure l n hl ha
 refine pcalls_of Tryz.func90 rfl (by simp [Tryz.ntmps90]) ?_
 rw [Tryz.ntmps90,Tryz.results90]
 push_cast [O,U]
 repeat' ((first|refine plE [1] hf ?_ ?_|refine pG ?_|refine pQ ?_|refine pU ?_|refine pif ?_ ?_<;>intro h<;>try exact pN h)<;>push_cast [O,U])
 (refine retK_of [] ?_;push_cast [O,U])
set_option maxRecDepth 20000
theorem emp_app (a:ByteArray):(⟨#[]⟩:ByteArray)++a=a:=by apply ba_ext;simp
theorem app_emp (a:ByteArray):a++(⟨#[]⟩:ByteArray)=a:=by apply ba_ext;simp
theorem app_assoc (a b c:ByteArray):a++b++c=a++(b++c):=by apply ba_ext;simp
def restP (l:List Dev) (k:Nat) (c:Int):ByteArray:=joinP (((chainGo l k c).map Dev.name).reverse)
theorem path_start (l:List Dev) (n:Int):restP l (l.length - 0) n++⟨#[]⟩=pathM l n:=by rw [app_emp];rfl
theorem path_none {l:List Dev} {acc:ByteArray} {n c:Int} {k:Nat} (h:restP l k c++acc=pathM l n) (hf:findD l c=none):acc=pathM l n:=by
 unfold restP at h
 rw [chainGo_none hf] at h
 rw [← h]
 exact (emp_app acc).symm
theorem path_zero {l:List Dev} {acc:ByteArray} {n c:Int} (h:restP l 0 c++acc=pathM l n):acc=pathM l n:=by
 rw [← h]
 exact (emp_app acc).symm
theorem path_take {l:List Dev} {acc:ByteArray} {n c:Int} {k:Nat} {d:Dev} (h:restP l (k+1) c++acc=pathM l n) (hf:findD l c=some d):restP l k d.parent++(⟨#[47]⟩++d.name++acc)=pathM l n:=by
 rw [← h]
 unfold restP
 rw [chainGo_some hf,List.map_cons,List.reverse_cons,joinP_snoc]
 simp only [app_assoc]
set_option maxHeartbeats 8000000 in
theorem tpath_pure (l:List Dev) (n:Int) (h:Okp l) (hl:l.length≤1000) (hz:∀ d ∈ l,d.original.size≤1000) (hnz:∀ d ∈ l,d.name.size≤1000) :
  PCalls Tryz.prog 137 [.agg (trE l),.c (.v (.int .i64 n))] [] fun r os=>r = .two (.c (.v (.string (pathM l n)))) (.c (.v (.bool (decide (pathM l n≠⟨#[]⟩)))))∧os=[]:=by
 have hk:=look_pure l h hl hz
 have hu:=up_pure l n
 refine pcalls_of Tryz.func137 rfl (by simp [Tryz.ntmps137]) ?_
 rw [Tryz.ntmps137,Tryz.results137]
 push_cast [O,U]
 have cB:CutB 8 [11]:=trivial
 repeat' ((first|refine plE [] hk ?_ ?_|refine plE [2,3] hu ?_ ?_|refine pC ?_|refine pQC ?_|refine pU ?_|refine pif ?_ ?_<;>intro h<;>try exact pN h)<;>push_cast [O,U])
 refine pwp_range (R:=fun lo r os'=>∃ L2 t2 c j,os'=[.box 41 (trE l),.box 9 [.v (.string (pathM l n))],.map (some .i64) false (placeE l l.length),.map (some .i64) false (origE l l.length),.box 120 [.sl 10 (l.map Dev.d),.mp 2,.mp 3],.box 3 [.v (.int .i64 c)],.loop lo L2 t2]++j∧(j=[]∨∃ b,j=[b])∧L2.st = .ready∧L2.pd=none) rfl (by kernel_rfl) (fun lo D fn=>?_) (fun lo r os' hR=>?_)
 ·refine pcalls_of_all Tryz.func108 rfl (by simp [Tryz.ntmps108]) ?_
  rw [Tryz.ntmps108,Tryz.results108]
  push_cast [O,U]
  have cB:CutB 6 [7,8,9]:=trivial
  repeat' ((first|refine pC ?_|refine pQC ?_|refine pU ?_|refine pif ?_ ?_<;>intro h<;>try exact pN h)<;>push_cast [O,U])
  (apply pwp_loop3 (α:=Nat × Int × ByteArray) 6 [7,8,9] (fun x=>[(9,.c (.v (.int .i64 x.1)))]) (fun x=>[(1,.box 9 [.v (.string x.2.2)]),(5,.box 3 [.v (.int .i64 x.2.1)])]) (fun x=>x.1≤l.length∧x.2.2.size≤1001 * x.1∧restP l (l.length - x.1) x.2.1++x.2.2=pathM l n) (fun x=>l.length - x.1) ((0,n,⟨#[]⟩));(focus ((try push_cast [O,U]);rfl));(focus exact ⟨Nat.zero_le _,Nat.zero_le _,path_start l n⟩);(focus ((refine weak_fg ?_;try push_cast [O,U]))))
  rintro ⟨j,c,acc⟩ ⟨hj,hal,hacc⟩
  simp only at hj hal hacc
  push_cast [O,U]
  have hfd:=vfind_pure l c h hl
  by_cases hlt:j < l.length
  ·obtain ⟨m,hm⟩:∃ m,l.length - j=m+1:=⟨l.length - j - 1,by omega⟩
   rw [hm] at hacc
   cases hd:findD l c with
   | none =>
    rw [hd] at hfd
    simp only [Option.getD_none,Option.isSome_none] at hfd
    have he:=path_none hacc hd
    subst he
    repeat' ((first|refine plE [2,3] hfd ?_ ?_|refine pC ?_|refine pQC ?_|refine pU ?_|refine pif ?_ ?_<;>intro h<;>try exact pN h)<;>push_cast [O,U])
    exact ⟨_,rfl,by push_cast [O,U],_,_,_,[_],rfl,.inr ⟨_,rfl⟩,rfl,rfl⟩
   | some d =>
    rw [hd] at hfd
    simp only [Option.getD_some,Option.isSome_some] at hfd
    have hm2:l.length - (j+1)=m:=by omega
    have hdn:=hnz _ (findD_some hd).1
    have hn2:=path_take hacc hd
    have hf1:=slash_fit (n:=d.name.size) (by omega)
    have hs1:(⟨#[47]⟩:ByteArray).size=1:=rfl
    have hf2:(((⟨#[47]⟩++d.name:ByteArray).size:Nat):Int)+(acc.size:Int)≤9223372036854775807:=by rw [ByteArray.size_append,hs1];omega
    have hf3:(⟨#[47]⟩++d.name++acc).size≤1001 * (j+1):=by rw [ByteArray.size_append,ByteArray.size_append,hs1];omega
    repeat' ((first|refine plE [2,3] hfd ?_ ?_|refine pC ?_|refine pQC ?_|refine pU ?_|refine pif ?_ ?_<;>intro h<;>try exact pN h)<;>push_cast [O,U])
    refine pl_yield 6 (qs:=[.agg d.e]) rfl (by push_cast [O,U]) rfl (by push_cast [O,U]) rfl rfl (by push_cast [O,U]) rfl rfl ?_
    try dsimp only
    push_cast [O,U]
    have cB:CutB 8 [11,12]:=trivial
    repeat' ((first|refine pC ?_|refine pQC ?_|refine pU ?_|refine pif ?_ ?_<;>intro h<;>try exact pN h)<;>push_cast [O,U])
    simp only [asgQ]
    refine ⟨_,_,rfl,rfl,?_⟩
    try dsimp only
    repeat' ((first|refine pC ?_|refine pQC ?_|refine pU ?_|refine pif ?_ ?_<;>intro h<;>try exact pN h)<;>push_cast [O,U,hf1,hf2])
    simp only [yldQ]
    refine ⟨_,_,rfl,?_⟩
    refine pl_of_pops ?_
    push_cast [O,U]
    have cB:CutB 6 [7,8,9]:=trivial
    repeat' ((first|refine pC ?_|refine pQC ?_|refine pU ?_|refine pif ?_ ?_<;>intro h<;>try exact pN h)<;>push_cast [O,U])
    exact ⟨(j+1,d.parent,⟨#[47]⟩++d.name++acc),⟨by simp only;omega,hf3,by simp only [hm2];exact hn2⟩,by (refine weak_fg ?_;push_cast [O,U]),by simp only;omega⟩
  ·have hj2:l.length - j=0:=by omega
   rw [hj2] at hacc
   have he:=path_zero hacc
   subst he
   repeat' ((first|refine pC ?_|refine pQC ?_|refine pU ?_|refine pif ?_ ?_<;>intro h<;>try exact pN h)<;>push_cast [O,U])
   exact ⟨_,rfl,by push_cast [O,U],_,_,_,[],rfl,.inl rfl,rfl,rfl⟩
 ·obtain ⟨L2,t2,c,jj,rfl,hj,h1,h2⟩:=hR
  rcases hj with rfl|⟨b,rfl⟩
  ·refine ⟨L2,t2,rfl,by rw [h1];simp,?_⟩
   rw [h2]
   simp only [rngfQ]
   have cB:CutB 8 []:=trivial
   push_cast [O,U]
   repeat' ((first|refine pC ?_|refine pQC ?_|refine pU ?_|refine pif ?_ ?_<;>intro h<;>try exact pN h)<;>push_cast [O,U])
   (refine retK_of [] ?_;push_cast [O,U])
  ·refine ⟨L2,t2,rfl,by rw [h1];simp,?_⟩
   rw [h2]
   simp only [rngfQ]
   have cB:CutB 8 []:=trivial
   push_cast [O,U]
   repeat' ((first|refine pC ?_|refine pQC ?_|refine pU ?_|refine pif ?_ ?_<;>intro h<;>try exact pN h)<;>push_cast [O,U])
   (refine retK_of [] ?_;push_cast [O,U])
set_option maxRecDepth 20000
theorem numbered_pure (k:Int):PCalls Tryz.prog 154 [.c (.v (.int .i64 k))] [] fun r os=>r = .c (.v (.bool (decide (k=2) || decide (k=3))))∧os=[]:=by
 refine pcalls_of Tryz.func154 rfl (by simp [Tryz.ntmps154]) ?_
 rw [Tryz.ntmps154,Tryz.results154]
 by_cases h:k=2
 ·have h':=eq_true h
  push_cast [O,U]
  repeat' ((first|refine pG ?_|refine pQ ?_|refine pU ?_|refine pif ?_ ?_<;>intro h<;>try exact pN h)<;>push_cast [O,U,h'])
  (refine retK_of [] ?_;push_cast [O,U])
  all_goals simp [h]
 ·push_cast [O,U]
  repeat' ((first|refine pG ?_|refine pQ ?_|refine pU ?_|refine pif ?_ ?_<;>intro h<;>try exact pN h)<;>push_cast [O,U,h])
  (refine retK_of [] ?_;push_cast [O,U])
  all_goals simp [h]
theorem node_pure (d:Dev) (hd:d.original.size≤1048576):PCalls Tryz.prog 115 [.agg d.e] [] fun r os=>r = .two (.c (.v (.string (nodeM d)))) (.c (.v (.bool (hasN d))))∧os=[]:=by
 have hn:=numbered_pure d.kind
 have hr:=repl_pure d.original (by omega)
 unfold nodeM
 have e:hasN d=(decide (d.kind=2) || decide (d.kind=3)):=rfl
 obtain ⟨b,hb⟩:∃ b,(decide (d.kind=2) || decide (d.kind=3))=b:=⟨_,rfl⟩
 rw [e,hb]
 rw [hb] at hn
 refine pcalls_of Tryz.func115 rfl (by simp [Tryz.ntmps115]) ?_
 rw [Tryz.ntmps115,Tryz.results115]
 cases b
 ·push_cast [O,U]
  repeat' ((first|refine plE [] hn ?_ ?_|refine pG ?_|refine pQ ?_|refine pU ?_|refine pif ?_ ?_<;>intro h<;>try exact pN h)<;>push_cast [O,U])
  (refine retK_of [] ?_;push_cast [O,U])
 ·push_cast [O,U]
  repeat' ((first|refine plE [] hn ?_ ?_|refine plE [] hr ?_ ?_|refine pG ?_|refine pQ ?_|refine pU ?_|refine pif ?_ ?_<;>intro h<;>try exact pN h)<;>push_cast [O,U])
  (refine retK_of [] ?_;push_cast [O,U])
end Go.Proofs.YtmbbkfffcflfcaaGreatDoor
namespace Go.Proofs.YtmbbkfffcflfcaaGreatDoor
open Go.RowKit
open IntWalk renaming iteOmega → O, toNatUp → U
set_option linter.unusedVariables false
set_option linter.unusedSimpArgs false
theorem rest_trim (s:ByteArray):(⟨(Lib.trimPrefix s.data.toList [47]).toArray⟩:ByteArray)=restS s:=by
 unfold restS slashS Lib.trimPrefix
 split
 ·have e:=Lib.extract_to_end s 1
  generalize s.extract 1 s.size=t at e
  cases t
  simp only at e
  congr
  rw [show ([47]:List UInt8).length=1 from rfl,← e]
 ·rfl
theorem cutp_pure (s:ByteArray):PCalls Tryz.prog 163 [.c (.v (.string s)),.c (.v (.string ⟨#[47]⟩))] [] fun r os=>r = .two (.c (.v (.string (restS s)))) (.c (.v (.bool (slashS s))))∧os=[] :=
 pcalls_plain2 [.string s,.string ⟨#[47]⟩] _ _ rfl rfl fun w _=>(strings_CutPrefix s ⟨#[47]⟩ w).mono fun e w' ⟨he,hw⟩=>by
  rw [he,hw]
  refine ⟨?_,Below.refl _ _⟩
  show Ending.returned (.tuple #[.string ⟨(Lib.trimPrefix s.data.toList [47]).toArray⟩,.bool (Lib.hasPrefix s.data.toList [47])])=_
  rw [rest_trim];rfl
end Go.Proofs.YtmbbkfffcflfcaaGreatDoor
namespace Go.Proofs.YtmbbkfffcflfcaaGreatDoor
attribute [local irreducible] PL QL PWPr PCalls Weak RetK Kontr PA
open Go.RowKit
open IntWalk renaming iteOmega → O, toNatUp → U
set_option linter.unusedVariables false
set_option linter.unusedSimpArgs false
set_option maxRecDepth 20000
set_option maxHeartbeats 1000000 in
theorem allF_pure (x:ByteArray) (hx:x.size≤9223372036854775807) :
  PCalls Tryz.prog 200 [.c (.v (.string x)),.c (.ptr 0 0)] [.box 135 [.fn (.func 76) [] []]] fun r os=>r = .c (.v (.bool (!validS x)))∧os=[.box 135 [.fn (.func 76) [] []]]:=by
 refine pcalls_of Tryz.func200 rfl (by simp [Tryz.ntmps200]) ?_
 rw [Tryz.ntmps200,Tryz.results200]
 push_cast [O,U]
 repeat' ((first|refine plE [] (valid_pure x hx) ?_ ?_|refine pG ?_|refine pQ ?_|refine pU ?_|refine pif ?_ ?_<;>intro h<;>try exact pN h)<;>push_cast [O,U])
 (refine retK_of [0] ?_;push_cast [O,U])
set_option maxHeartbeats 1000000 in
theorem all_pure (l:List ByteArray) (hl:l.length≤1000000000) (hz:∀ x ∈ l,x.size≤9223372036854775807) :
  PCalls Tryz.prog 160 [.c (.sl 1 (l.map strD)),.c (.fn (.func 76) [] [])] [] fun r os=>r = .c (.v (.bool (l.all validS)))∧os=[]:=by
 have hc:=containsFuncS_pure l hl 200 [0] [.box 135 [.fn (.func 76) [] []]] (fun x=>!validS x) ⟨by kernel_rfl,fun x hx=>allF_pure x (hz x hx)⟩
 have e:(!(l.any fun x=>!validS x))=l.all validS:=by rw [List.all_eq_not_any_not]
 refine pcalls_of Tryz.func160 rfl (by simp [Tryz.ntmps160]) ?_
 rw [Tryz.ntmps160,Tryz.results160]
 push_cast [O,U]
 repeat' ((first|refine plE [0] hc ?_ ?_|refine pG ?_|refine pQ ?_|refine pU ?_|refine pif ?_ ?_<;>intro h<;>try exact pN h)<;>push_cast [O,U])
 (refine retK_of [] ?_;push_cast [O,U,e])
theorem extract_size (s:ByteArray):(s.extract 1 s.size).size=s.size - 1:=by
 have h:=congrArg List.length (Lib.extract_to_end s 1)
 rw [List.length_drop] at h
 exact h
theorem rest_size (s:ByteArray):(restS s).size≤s.size:=by
 unfold restS
 split
 ·rw [extract_size];omega
 ·exact Nat.le_refl _
theorem spl_mem:∀ {l x:List UInt8},x ∈ spl l → x.length≤l.length
 | [],x,h=>by simp [spl] at h;subst h;simp
 | b :: l,x,h=>by
  rw [spl] at h
  split at h
  ·rcases List.mem_cons.1 h with rfl|h
   ·simp
   ·have:=spl_mem h;simp only [List.length_cons];omega
  ·split at h
   ·rename_i e;simp at h;subst h;simp
   ·rename_i y t e
    have hy:y ∈ spl l:=by rw [e];simp
    rcases List.mem_cons.1 h with rfl|h
    ·have:=spl_mem hy;simp only [List.length_cons];omega
    ·have hx:x ∈ spl l:=by rw [e];simp [h]
     have:=spl_mem hx;simp only [List.length_cons];omega
theorem parts_mem {s x:ByteArray} (h:x ∈ parts s):x.size≤s.size:=by
 unfold parts at h
 obtain ⟨y,hy,rfl⟩:=List.mem_map.1 h
 have:=spl_mem hy
 exact this
def splitR:Option (List ByteArray) → PV
 | some l=>.two (.c (.sl 1 (l.map strD))) (.c (.v (.int .i64 0)))
 | none=>.two (.c (.v (.slice none 0 0))) (.c (.v (.int .i64 10)))
attribute [push_cast] splitR
set_option maxHeartbeats 1000000 in
theorem nsplit_pure (s:ByteArray) (hs:s.size≤100000000) :
  PCalls Tryz.prog 117 [.c (.v (.string s))] [] fun r os=>r=splitR (splitP s)∧os=[]:=by
 have hrs:=rest_size s
 have hps:=parts_size (s:=restS s)
 have hsp:=split_pure (restS s) (by omega)
 have hpm:=fun x hx=>parts_mem (s:=restS s) (x:=x) hx
 unfold splitP
 obtain ⟨l,hl⟩:∃ l,parts (restS s)=l:=⟨_,rfl⟩
 rw [hl] at hps hsp ⊢
 simp only [hl] at hpm
 have hal:=all_pure l (by omega) (fun x hx=>by have:=hpm x hx;omega)
 have htk:=List.take_of_length_le (l:=l.map strD) (i:=l.length) (by simp)
 refine pcalls_of Tryz.func117 rfl (by simp [Tryz.ntmps117]) ?_
 rw [Tryz.ntmps117,Tryz.results117]
 have hcp:=cutp_pure s
 obtain ⟨b,hb⟩:∃ b,slashS s=b:=⟨_,rfl⟩
 obtain ⟨c,hc⟩:∃ c,l.all validS=c:=⟨_,rfl⟩
 rw [hb] at hcp ⊢
 rw [hc] at hal ⊢
 cases b<;>cases c
 all_goals push_cast [O,U]
 all_goals repeat' ((first|refine plE [] hcp ?_ ?_;focus (push_cast [O,U];done)|refine plE [] hsp ?_ ?_;focus (push_cast [O,U];done)|(refine pl_call2 true [] rfl rfl (by kernel_rfl) (hal) ?_ ?_ ?_;push_cast [O,U];(intro _ r os;rintro ⟨rfl,rfl⟩;push_cast [O,U]);rintro r os ⟨rfl,rfl⟩;refine pl_of_pops ?_)|refine pG ?_|refine pQ ?_|refine pU ?_|refine pif ?_ ?_<;>intro h<;>try exact pN h)<;>push_cast [O,U])
 all_goals (refine retK_of [] ?_;push_cast [O,U,htk,and_self,and_false,false_and,Bool.false_eq_true])
theorem isnan_pure (s:ByteArray):PCalls Tryz.prog 229 [.c (.v (.string s))] [] fun r os=>r = .c (.v (.bool false))∧os=[]:=by
 refine pcalls_of Tryz.func229 rfl (by simp [Tryz.ntmps229]) ?_
 rw [Tryz.ntmps229,Tryz.results229]
 push_cast [O,U]
 repeat' ((first|refine pG ?_|refine pQ ?_|refine pU ?_|refine pif ?_ ?_<;>intro h<;>try exact pN h)<;>push_cast [O,U,ne_eq,not_true_eq_false])
 (refine retK_of [] ?_;push_cast [O,U])
theorem ccmp_pure (a b:ByteArray):PCalls Tryz.prog 203 [.c (.v (.string a)),.c (.v (.string b))] [] fun r os=>r = .c (.v (.int .i64 (cmpS a b)))∧os=[]:=by
 refine pcalls_of Tryz.func203 rfl (by simp [Tryz.ntmps203]) ?_
 rw [Tryz.ntmps203,Tryz.results203]
 unfold cmpS
 obtain ⟨x,hx⟩:∃ x,bless a b=x:=⟨_,rfl⟩
 obtain ⟨y,hy⟩:∃ y,bless b a=y:=⟨_,rfl⟩
 rw [hx,hy]
 cases x<;>cases y
 all_goals push_cast [O,U]
 all_goals repeat' ((first|refine plE [] (isnan_pure a) ?_ ?_;focus (push_cast [O,U,hx,hy];done)|refine plE [] (isnan_pure b) ?_ ?_;focus (push_cast [O,U,hx,hy];done)|refine pG ?_|refine pQ ?_|refine pU ?_|refine pif ?_ ?_<;>intro h<;>try exact pN h)<;>push_cast [O,U,hx,hy])
 all_goals (refine retK_of [] ?_;push_cast [O,U])
theorem cmpL_atN:∀ {l m:List ByteArray} {k:Nat},k≤l.length → k≤m.length → l.take k=m.take k → cmpL l m=cmpL (l.drop k) (m.drop k)
 | l,m,0,_,_,_=>by simp
 | [],m,k+1,h,_,_=>by simp at h
 | a :: l,[],k+1,_,h,_=>by simp at h
 | a :: l,b :: m,k+1,h1,h2,h3=>by
  simp only [List.take_succ_cons,List.cons.injEq] at h3
  obtain ⟨rfl,h3⟩:=h3
  rw [cmpL,if_pos rfl]
  simp only [List.drop_succ_cons]
  exact cmpL_atN (by simpa using h1) (by simpa using h2) h3
theorem cmpL_stepN {l m:List ByteArray} {k:Nat} (h1:k < l.length) (h2:k < m.length) (h3:l.take k=m.take k):cmpL l m=if l.getD k default=m.getD k default then cmpL (l.drop (k+1)) (m.drop (k+1)) else cmpS (l.getD k default) (m.getD k default):=by
 rw [cmpL_atN (by omega) (by omega) h3,List.drop_eq_getElem_cons h1,List.drop_eq_getElem_cons h2,cmpL,getD_lt l h1,getD_lt m h2]
set_option maxHeartbeats 1000000 in
theorem scompare_pure (l m:List ByteArray) (hl:l.length≤1000000000) (hm:m.length≤1000000000) :
  PCalls Tryz.prog 164 [.c (.sl 1 (l.map strD)),.c (.sl 1 (m.map strD))] [] fun r os=>r = .c (.v (.int .i64 (cmpL l m)))∧os=[]:=by
 refine pcalls_of Tryz.func164 rfl (by simp [Tryz.ntmps164]) ?_
 rw [Tryz.ntmps164,Tryz.results164]
 push_cast [O,U]
 have cB:CutB 12 []:=trivial
 repeat' ((first|refine pC ?_|refine pQC ?_|refine pU ?_|refine pif ?_ ?_<;>intro h<;>try exact pN h)<;>push_cast [O,U])
 (apply pwp_loop3 (α:=Nat) 12 [] (fun k=>[(11,.c (.v (.int .i64 k)))]) (fun k=>[]) (fun k=>k≤l.length∧k≤m.length∧l.take k=m.take k) (fun k=>l.length - k) (0);(focus ((try push_cast [O,U]);rfl));(focus exact ⟨by omega,by omega,rfl⟩);(focus ((refine weak_fg ?_;try push_cast [O,U]))))
 rintro k ⟨hk,hk2,he⟩
 push_cast [O,U]
 by_cases h1:k < l.length
 ·by_cases h2:k < m.length
  ·have hst:=cmpL_stepN h1 h2 he
   by_cases e:l.getD k default=m.getD k default
   ·have hc:cmpS (l.getD k default) (m.getD k default)=0:=cmpS_eq.2 e
    repeat' ((first|refine plE [] (ccmp_pure (l.getD k default) (m.getD k default)) ?_ ?_|refine pC ?_|refine pQC ?_|refine pU ?_|refine pif ?_ ?_<;>intro h<;>try exact pN h)<;>push_cast [O,U,hc])
    refine ⟨k+1,⟨by omega,by omega,?_⟩,by (refine weak_fg ?_;push_cast [O,U]),by omega⟩
    rw [List.take_succ_eq_append_getElem h1,List.take_succ_eq_append_getElem h2,he,← getD_lt l h1,← getD_lt m h2,e]
   ·have hc:¬ cmpS (l.getD k default) (m.getD k default)=0:=fun h=>e (cmpS_eq.1 h)
    rw [if_neg e] at hst
    repeat' ((first|refine plE [] (ccmp_pure (l.getD k default) (m.getD k default)) ?_ ?_|refine pC ?_|refine pQC ?_|refine pU ?_|refine pif ?_ ?_<;>intro h<;>try exact pN h)<;>push_cast [O,U,hc])
    (refine retK_of [] ?_;push_cast [O,U])
    rw [hst]
  ·have hke:k=m.length:=by omega
   have hcl:cmpL l m=1:=by
    have hz:m.drop k=[]:=List.drop_eq_nil_of_le (by omega)
    rw [cmpL_atN (by omega) (by omega) he,hz,List.drop_eq_getElem_cons h1];rfl
   repeat' ((first|refine pC ?_|refine pQC ?_|refine pU ?_|refine pif ?_ ?_<;>intro h<;>try exact pN h)<;>push_cast [O,U])
   (refine retK_of [] ?_;push_cast [O,U])
   rw [hcl]
 ·have hke:k=l.length:=by omega
  by_cases h2:k < m.length
  ·have hcl:cmpL l m = -1:=by
    have hz:l.drop k=[]:=List.drop_eq_nil_of_le (by omega)
    rw [cmpL_atN (by omega) (by omega) he,hz,List.drop_eq_getElem_cons h2];rfl
   repeat' ((first|refine pC ?_|refine pQC ?_|refine pU ?_|refine pif ?_ ?_<;>intro h<;>try exact pN h)<;>push_cast [O,U])
   (refine retK_of [] ?_;push_cast [O,U])
   rw [hcl]
  ·have hcl:cmpL l m=0:=by
    rw [cmpL_atN (by omega) (by omega) he,List.drop_eq_nil_of_le (by omega),List.drop_eq_nil_of_le (by omega)];rfl
   repeat' ((first|refine pC ?_|refine pQC ?_|refine pU ?_|refine pif ?_ ?_<;>intro h<;>try exact pN h)<;>push_cast [O,U])
   (refine retK_of [] ?_;push_cast [O,U])
   rw [hcl]
def cmpR (a b:ByteArray):PV:=match splitP a,splitP b with
 | some l,some m=>.two (.c (.v (.int .i64 (cmpL l m)))) (.c (.v (.int .i64 0)))
 | _,_=>.two (.c (.v (.int .i64 0))) (.c (.v (.int .i64 10)))
theorem splitP_size {s:ByteArray} {l:List ByteArray} (h:splitP s=some l):l.length≤s.size+1:=by
 unfold splitP at h
 split at h
 ·cases h;have:=rest_size s;have:=parts_size (s:=restS s);omega
 ·cases h
set_option maxHeartbeats 1000000 in
theorem ncompare_pure (a b:ByteArray) (ha:a.size≤100000000) (hb:b.size≤100000000) :
  PCalls Tryz.prog 118 [.c (.v (.string a)),.c (.v (.string b))] [] fun r os=>r=cmpR a b∧os=[]:=by
 have h1:=nsplit_pure a ha
 have h2:=nsplit_pure b hb
 unfold cmpR
 refine pcalls_of Tryz.func118 rfl (by simp [Tryz.ntmps118]) ?_
 rw [Tryz.ntmps118,Tryz.results118]
 cases e1:splitP a with
 | none =>
  rw [e1] at h1
  cases e2:splitP b with
  | none =>
   rw [e2] at h2
   push_cast [O,U]
   repeat' ((first|refine plE [] h1 ?_ ?_;focus (push_cast [O,U];done)|refine plE [] h2 ?_ ?_;focus (push_cast [O,U];done)|refine pG ?_|refine pQ ?_|refine pU ?_|refine pif ?_ ?_<;>intro h<;>try exact pN h)<;>push_cast [O,U])
   (refine retK_of [] ?_;push_cast [O,U])
  | some m =>
   rw [e2] at h2
   push_cast [O,U]
   repeat' ((first|refine plE [] h1 ?_ ?_;focus (push_cast [O,U];done)|refine plE [] h2 ?_ ?_;focus (push_cast [O,U];done)|refine pG ?_|refine pQ ?_|refine pU ?_|refine pif ?_ ?_<;>intro h<;>try exact pN h)<;>push_cast [O,U])
   (refine retK_of [] ?_;push_cast [O,U])
 | some l =>
  rw [e1] at h1
  cases e2:splitP b with
  | none =>
   rw [e2] at h2
   push_cast [O,U]
   repeat' ((first|refine plE [] h1 ?_ ?_;focus (push_cast [O,U];done)|refine plE [] h2 ?_ ?_;focus (push_cast [O,U];done)|refine pG ?_|refine pQ ?_|refine pU ?_|refine pif ?_ ?_<;>intro h<;>try exact pN h)<;>push_cast [O,U])
   (refine retK_of [] ?_;push_cast [O,U])
  | some m =>
   rw [e2] at h2
   have:=splitP_size e1
   have:=splitP_size e2
   push_cast [O,U]
   repeat' ((first|refine plE [] h1 ?_ ?_;focus (push_cast [O,U];done)|refine plE [] h2 ?_ ?_;focus (push_cast [O,U];done)|refine plE [] (scompare_pure l m (by omega) (by omega)) ?_ ?_;focus (push_cast [O,U];done)|refine pG ?_|refine pQ ?_|refine pU ?_|refine pif ?_ ?_<;>intro h<;>try exact pN h)<;>push_cast [O,U])
   (refine retK_of [] ?_;push_cast [O,U])
end Go.Proofs.YtmbbkfffcflfcaaGreatDoor
namespace Go.Proofs.YtmbbkfffcflfcaaGreatDoor
open Go.RowKit
open IntWalk renaming iteOmega → O, toNatUp → U
set_option linter.unusedVariables false
set_option linter.unusedSimpArgs false
structure Wsh where
 path:ByteArray
 names:List ByteArray
 deriving DecidableEq,Inhabited
def Wsh.d (w:Wsh):List D:=[.v (.string w.path),.sl 1 (w.names.map strD)]
attribute [push_cast] Wsh.d
def Wsh.e (w:Wsh):List E:=[.v (.string w.path),.sl 1 (w.names.map strD)]
attribute [push_cast] Wsh.e
def digN (n:Nat):ByteArray:=⟨(Lib.decDigits n).toArray⟩
def readGo:List UInt8 → Nat → Nat
 | [],a=>a
 | b :: l,a=>readGo l (a * 10+(b.toNat - 48))
theorem readGo_app:∀ (l m:List UInt8) (a:Nat),readGo (l++m) a=readGo m (readGo l a)
 | [],m,a=>rfl
 | b :: l,m,a=>readGo_app l m _
theorem dec_read (n:Nat):readGo (Lib.decDigits n) 0=n:=by
 induction n using Nat.strongRecOn with
 | ind n ih =>
  rw [Lib.decDigits]
  split
  ·rename_i h
   have:(UInt8.ofNat (48+n)).toNat=48+n:=by rw [UInt8.toNat_ofNat'];omega
   simp only [readGo]
   rw [this];omega
  ·rename_i h
   rw [readGo_app,ih (n / 10) (by omega)]
   have:(UInt8.ofNat (48+n % 10)).toNat=48+n % 10:=by rw [UInt8.toNat_ofNat'];omega
   simp only [readGo]
   rw [this];omega
theorem digN_inj {m n:Nat} (h:digN m=digN n):m=n:=by
 have h2:Lib.decDigits m=Lib.decDigits n:=by
  unfold digN at h
  injection h with h
  simpa using congrArg Array.toList h
 rw [← dec_read m,h2,dec_read]
def ifN (n:Nat):ByteArray:=⟨#[105,102]⟩++digN n
theorem app_inj {a b c:ByteArray} (h:a++b=a++c):b=c:=by
 have h2:=congrArg (fun s:ByteArray=>s.data.toList) h
 simp only [ByteArray.data_append,Array.toList_append] at h2
 have h3:=List.append_cancel_left h2
 cases b;cases c
 simp only at h3
 congr
 exact Array.toList_inj.1 h3
theorem ifN_inj {m n:Nat} (h:ifN m=ifN n):m=n:=digN_inj (app_inj h)
def freshGo (W:List ByteArray):Nat → Nat → Nat
 | 0,n=>n
 | k+1,n=>if inM (ifN n) W=true then freshGo W k (n+1) else n
theorem freshGo_ge (W:List ByteArray):∀ k n,n≤freshGo W k n
 | 0,n=>Nat.le_refl _
 | k+1,n=>by
  rw [freshGo]
  split
  ·have:=freshGo_ge W k (n+1);omega
  ·exact Nat.le_refl _
theorem freshGo_le (W:List ByteArray):∀ k n,freshGo W k n≤n+k
 | 0,n=>Nat.le_refl _
 | k+1,n=>by
  rw [freshGo]
  split
  ·have:=freshGo_le W k (n+1);omega
  ·omega
theorem freshGo_mid (W:List ByteArray):∀ k n m,n≤m → m < freshGo W k n → inM (ifN m) W=true
 | 0,n,m,h1,h2=>by rw [freshGo] at h2;omega
 | k+1,n,m,h1,h2=>by
  rw [freshGo] at h2
  split at h2
  ·rename_i h
   by_cases e:m=n
   ·rw [e];exact h
   ·exact freshGo_mid W k (n+1) m (by omega) h2
  ·omega
theorem nodup_sub_len {α:Type} [DecidableEq α]:∀ {l m:List α},l.Nodup → (∀ x ∈ l,x ∈ m) → l.length≤m.length
 | [],m,_,_=>Nat.zero_le _
 | a :: l,m,h,hs=>by
  obtain ⟨h1,h2⟩:=List.nodup_cons.1 h
  have ha:=hs a (by simp)
  have:=nodup_sub_len (l:=l) (m:=m.erase a) h2 fun x hx=>by
   have hx2:=hs x (by simp [hx])
   exact (List.mem_erase_of_ne (fun e=>h1 (by rw [← e];exact hx))).2 hx2
  rw [List.length_erase_of_mem ha] at this
  have hp:0 < m.length:=List.length_pos_of_mem ha
  rw [List.length_cons]
  omega
theorem freshGo_end (W:List ByteArray) {k n:Nat} (hk:W.length < k):inM (ifN (freshGo W k n)) W=false:=by
 have key:∀ k n,inM (ifN (freshGo W k n)) W=true → freshGo W k n=n+k:=by
  intro k
  induction k with
  | zero=>intro n _;rfl
  | succ k ih =>
   intro n h
   rw [freshGo] at h ⊢
   split
   ·rename_i hc
    rw [if_pos hc] at h
    rw [ih (n+1) h];omega
   ·rename_i hc
    rw [if_neg hc] at h
    exact absurd h hc
 cases hc:inM (ifN (freshGo W k n)) W with
 | false=>rfl
 | true =>
  exfalso
  have h1:=key k n hc
  have h2:((List.range k).map fun j=>ifN (n+j)).Nodup:=by
   rw [List.Nodup,List.pairwise_map]
   refine List.nodup_range.imp fun hne e=>hne ?_
   have:=ifN_inj e
   omega
  have h3:=nodup_sub_len h2 (m:=W) fun x hx=>by
   obtain ⟨j,hj,rfl⟩:=List.mem_map.1 hx
   rw [List.mem_range] at hj
   exact inM_iff.1 (freshGo_mid W k n (n+j) (by omega) (by omega))
  rw [List.length_map,List.length_range] at h3
  omega
def freshN (W:List ByteArray) (n:Nat):Nat:=freshGo W (W.length+1) n
theorem fresh_ge (W:List ByteArray) (n:Nat):n≤freshN W n:=freshGo_ge W _ n
theorem fresh_le (W:List ByteArray) (n:Nat):freshN W n≤n+W.length+1:=freshGo_le W _ n
theorem fresh_not (W:List ByteArray) (n:Nat):inM (ifN (freshN W n)) W=false:=freshGo_end W (by omega)
abbrev AsgS:=List ByteArray × List ByteArray
def stepW (st:AsgS) (p:Nat × ByteArray):AsgS:=if st.1.getD p.1 default=⟨#[]⟩∧inM p.2 st.2=false then (st.1.set p.1 p.2,addS st.2 p.2) else st
def startA (l:List Wsh):AsgS:=(List.replicate l.length ⟨#[]⟩,[])
def fillW (W:List ByteArray) (st:List ByteArray × Nat) (i:Nat):List ByteArray × Nat:=if st.1.getD i default=⟨#[]⟩ then (st.1.set i (ifN (freshN W st.2)),freshN W st.2+1) else st
end Go.Proofs.YtmbbkfffcflfcaaGreatDoor
namespace Go.Proofs.YtmbbkfffcflfcaaGreatDoor
attribute [local irreducible] PL QL PWPr PCalls Weak RetK Kontr PA
open Go.RowKit
open IntWalk renaming iteOmega → O, toNatUp → U
set_option linter.unusedVariables false
set_option linter.unusedSimpArgs false
set_option maxRecDepth 20000
end Go.Proofs.YtmbbkfffcflfcaaGreatDoor
namespace Go.Proofs.YtmbbkfffcflfcaaGreatDoor
open Go.RowKit
open IntWalk renaming iteOmega → O, toNatUp → U
set_option linter.unusedVariables false
set_option linter.unusedSimpArgs false
theorem lcontainsAny_two (c d:UInt8):∀ l:List UInt8,Lib.containsAny l [c,d]=(l.contains c || l.contains d)
 | []=>rfl
 | b :: l=>by
  have ih:=lcontainsAny_two c d l
  have hg:=Lib.indexAny_ge [c,d] l
  unfold Lib.containsAny at ih ⊢
  rw [Lib.indexAny]
  by_cases h1:c=b
  ·subst h1;simp
  ·by_cases h2:d=b
   ·subst h2;simp
   ·rw [if_neg (by simp [Ne.symm h1,Ne.symm h2])]
    have e1:(b :: l).contains c=l.contains c:=by rw [List.contains_cons];simp [h1]
    have e2:(b :: l).contains d=l.contains d:=by rw [List.contains_cons];simp [h2]
    rw [e1,e2,← ih]
    split
    ·rename_i h3;simp at h3;rw [h3]
    ·rename_i h3;simp at h3;exact decide_eq_decide.2 (by omega)
theorem containsAny_pure (s:ByteArray) (hs:s.size < 4294967281) (ha:∀ (j:Nat) b,s.data.toList[j]? = some b → b.toNat < 128):PCalls Tryz.prog 197 [.c (.v (.string s)),.c (.v (.string ⟨#[58,33]⟩))] [] fun r os=>r = .c (.v (.bool (s.data.toList.contains 58 || s.data.toList.contains 33)))∧os=[] :=
 pcalls_plain [.string s,.string ⟨#[58,33]⟩] _ rfl fun w _=>by
  refine (strings_ContainsAny_laid s ⟨#[58,33]⟩ w hs (by decide) ha (fun j b hb=>by
   have:∀ b ∈ ([58,33]:List UInt8),b.toNat < 128:=by decide
   exact this b (List.mem_of_getElem? hb))).mono fun e w' ⟨he,hw⟩=>?_
  rw [he]
  exact ⟨by rw [show (⟨#[58,33]⟩:ByteArray).data.toList=[58,33] from rfl,lcontainsAny_two],hw⟩
end Go.Proofs.YtmbbkfffcflfcaaGreatDoor
