/- What the program computes, and the plain laws of it, part 42. -/
import Derived.Test.YthconflkbeipoaaGreatDoorS37
import Derived.Test.YthconflkbeipoaaGreatDoorS41
namespace Go.Proofs.YthconflkbeipoaaGreatDoor
attribute [local irreducible] PL QL PWPr PCalls Weak RetK Kontr PA
open Go.RowKit
open IntWalk renaming iteOmega → iO, toNatUp → tN
set_option linter.unusedVariables false
set_option linter.unusedSimpArgs false
set_option maxRecDepth 20000
theorem ren_eq {a b:Ren} (h1:a.path=b.path) (h2:a.old=b.old) (h3:a.new=b.new):a=b:=by
 cases a;cases b
 simp only at h1 h2 h3
 rw [h1,h2,h3]
set_option maxHeartbeats 2000000 in
theorem sameren_pure (a b:List Ren) (ha:a.length≤9223372036854775807) (hb:b.length≤9223372036854775807) :
  PCalls Tryz.prog 25 [.c (.sl 3 (a.map Ren.d)),.c (.sl 3 (b.map Ren.d))] [] fun r os=>r = .c (.v (.bool (decide (a=b))))∧os=[]:=by
 refine pcalls_of Tryz.func25 rfl (by simp [Tryz.ntmps25]) ?_
 rw [Tryz.ntmps25,Tryz.results25]
 push_cast [iO,tN]
 have cB:CutB 6 []:=trivial
 by_cases hl:a.length=b.length
 case neg =>
  have hn:decide (a=b)=false:=decide_eq_false fun e=>hl (by rw [e])
  have hl2:¬ (a.length:Int)=(b.length:Int):=by omega
  repeat' (first|((first|refine pC ?_|refine pQC ?_|refine pU ?_);push_cast [iO,tN,hl,hl2])|(refine pif (fun h=>?_) (fun h=>?_)<;>first|exact pN h|push_cast [iO,tN,hl,hl2]))
  (refine retK_of [] ?_;push_cast [iO,tN,hn])
 have hl2:(a.length:Int)=(b.length:Int):=by omega
 repeat' (first|((first|refine pC ?_|refine pQC ?_|refine pU ?_);push_cast [iO,tN,hl,hl2])|(refine pif (fun h=>?_) (fun h=>?_)<;>first|exact pN h|push_cast [iO,tN,hl,hl2]))
 (apply pwp_loop3 (α:=Nat) 6 [] (fun k=>[(5,.c (.v (.int .i64 k)))]) (fun k=>[]) (fun k=>k≤a.length∧a.take k=b.take k) (fun k=>a.length - k) (0);(focus ((try push_cast [iO,tN]);rfl));(focus exact ⟨Nat.zero_le _,rfl⟩);(focus ((refine weak_fg ?_;try push_cast [iO,tN]))))
 rintro k ⟨hk,hpre⟩
 push_cast [iO,tN]
 by_cases hlt:k < a.length
 ·have hlt':k < b.length:=by omega
  by_cases h1:(a.getD k default).path=(b.getD k default).path
  ·by_cases h2:(a.getD k default).old=(b.getD k default).old
   ·by_cases h3:(a.getD k default).new=(b.getD k default).new
    ·have he:=ren_eq h1 h2 h3
     repeat' (first|((first|refine pC ?_|refine pQC ?_|refine pU ?_);push_cast [iO,tN,h1,h2,h3])|(refine pif (fun h=>?_) (fun h=>?_)<;>first|exact pN h|push_cast [iO,tN,h1,h2,h3]))
     refine ⟨k+1,⟨by omega,?_⟩,by (refine weak_fg ?_;push_cast [iO,tN]),by omega⟩
     rw [List.take_succ_eq_append_getElem hlt,List.take_succ_eq_append_getElem hlt',hpre,← getD_lt a hlt,← getD_lt b hlt',he]
    ·have hn:decide (a=b)=false:=decide_eq_false fun e=>h3 (by rw [e])
     repeat' (first|((first|refine pC ?_|refine pQC ?_|refine pU ?_);push_cast [iO,tN,h1,h2,h3])|(refine pif (fun h=>?_) (fun h=>?_)<;>first|exact pN h|push_cast [iO,tN,h1,h2,h3]))
     (refine retK_of [] ?_;push_cast [iO,tN,hn])
   ·have hn:decide (a=b)=false:=decide_eq_false fun e=>h2 (by rw [e])
    repeat' (first|((first|refine pC ?_|refine pQC ?_|refine pU ?_);push_cast [iO,tN,h1,h2])|(refine pif (fun h=>?_) (fun h=>?_)<;>first|exact pN h|push_cast [iO,tN,h1,h2]))
    (refine retK_of [] ?_;push_cast [iO,tN,hn])
  ·have hn:decide (a=b)=false:=decide_eq_false fun e=>h1 (by rw [e])
   repeat' (first|((first|refine pC ?_|refine pQC ?_|refine pU ?_);push_cast [iO,tN,h1])|(refine pif (fun h=>?_) (fun h=>?_)<;>first|exact pN h|push_cast [iO,tN,h1]))
   (refine retK_of [] ?_;push_cast [iO,tN,hn])
 ·have hn:decide (a=b)=true:=decide_eq_true (by
   have:=hpre
   rwa [List.take_of_length_le (by omega),List.take_of_length_le (by omega)] at this)
  repeat' (first|((first|refine pC ?_|refine pQC ?_|refine pU ?_);push_cast [iO,tN])|(refine pif (fun h=>?_) (fun h=>?_)<;>first|exact pN h|push_cast [iO,tN]))
  (refine retK_of [] ?_;push_cast [iO,tN,hn])
def planB (names now:List Atr):Bool:=((decide (keys names).Nodup && decide (vals names).Nodup) && (decide (keys now).Nodup && decide (vals now).Nodup)) && (((vals names).all fun v=>!decide (v=⟨#[]⟩)) && (((keys names).all fun n=>inM n (keys now)) && now.all fun x=>(valOf names x.name).isSome || !inM x.value (vals names)))
theorem planB_ok {names now:List Atr} (h:planB names now=true):PlanOk names now:=by
 unfold planB at h
 simp only [Bool.and_eq_true,decide_eq_true_eq,List.all_eq_true,Bool.or_eq_true,Bool.not_eq_true',decide_eq_false_iff_not,inM_iff] at h
 obtain ⟨⟨⟨h1,h2⟩,h3,h4⟩,h5,h6,h7⟩:=h
 refine ⟨h1,h2,h3,h4,h5,h6,fun x hx hv hm=>?_⟩
 rcases h7 x hx with h8|h8
 ·rw [hv] at h8;cases h8
 ·exact inM_false.1 h8 hm
def netD (i:Int) (nm og:ByteArray):Dev:=⟨i,0,nm,og,⟨#[110,101,116]⟩,⟨#[]⟩,⟨#[]⟩,4,0,[]⟩
def okpB (l:List Dev):Bool:=(l.all fun d=>decide (1≤d.index) && decide (d.parent=0)) && decide (l.map Dev.index).Nodup
theorem okpB_ok {l:List Dev} (h:okpB l=true):Okp l:=by
 unfold okpB at h
 simp only [Bool.and_eq_true,List.all_eq_true,decide_eq_true_eq] at h
 exact ⟨fun d hd=>(h.1 d hd).1,h.2,fun i hi=>.inl (h.1 _ (List.getElem_mem _)).2⟩
def kw3:List Wsh:=[⟨⟨#[47,97]⟩,[⟨#[108,97,110,48]⟩,⟨#[101,116,104,48]⟩]⟩,⟨⟨#[47,98]⟩,[⟨#[108,97,110,48]⟩,⟨#[101,116,104,49]⟩]⟩,⟨⟨#[47,99]⟩,[⟨#[108,97,110,48]⟩]⟩]
def kt2:List Dev:=[netD 1 ⟨#[101,116,104,48]⟩ ⟨#[97]⟩,netD 2 ⟨#[101,116,104,49]⟩ ⟨#[98]⟩]
def kn2:List Atr:=[⟨⟨#[47,97]⟩,⟨#[101,116,104,49]⟩⟩,⟨⟨#[47,98]⟩,⟨#[101,116,104,48]⟩⟩]
theorem kw3_ok:wshOk kw3=true:=by decide +kernel
theorem kw3_few:decide (kw3.length * ((wantA2 kw3).length+2)≤99)=true:=by decide +kernel
theorem kw3_as:assignA kw3=[⟨⟨#[47,97]⟩,⟨#[108,97,110,48]⟩⟩,⟨⟨#[47,98]⟩,⟨#[101,116,104,49]⟩⟩,⟨⟨#[47,99]⟩,⟨#[105,102,48]⟩⟩]:=by decide +kernel
theorem kt2_okp:okpB kt2=true:=by decide +kernel
theorem kt2_fit:fitsB (nowP kt2) kn2=true:=by decide +kernel
theorem kt2_plan:planB kn2 (nowP kt2)=true:=by decide +kernel
theorem kt2_is:planOf kn2 (nowP kt2)=[⟨⟨#[47,97]⟩,⟨#[101,116,104,48]⟩,⟨#[114,101,110,97,109,101,48]⟩⟩,⟨⟨#[47,98]⟩,⟨#[101,116,104,49]⟩,⟨#[101,116,104,48]⟩⟩,⟨⟨#[47,97]⟩,⟨#[114,101,110,97,109,101,48]⟩,⟨#[101,116,104,49]⟩⟩]:=by decide +kernel
theorem kw3_fit:WshFit kw3:=by
 have h:(kw3.all fun w=>decide (w.path.size≤100) && (decide (w.names.length≤100) && w.names.all fun s=>decide (s.size≤100)))=true:=by decide +kernel
 simp only [List.all_eq_true,Bool.and_eq_true,decide_eq_true_eq] at h
 refine ⟨by decide,fun w hw=>?_,fun w hw=>?_,fun w hw s hs=>?_⟩
 ·have:=(h w hw).1;omega
 ·have:=(h w hw).2.1;omega
 ·have:=(h w hw).2.2 s hs;omega
set_option maxHeartbeats 8000000 in
theorem known23_pure:PCalls Tryz.prog 12 [] [] fun r os=>r = .c (.v (.bool true))∧os=[]:=by
 have ha:=assign_ok kw3 kw3_fit kw3_ok (few_mul (show kw3.length * ((wantA2 kw3).length+2)≤99 from of_decide_eq_true kw3_few))
 rw [kw3_as] at ha
 unfold kw3 at ha
 have hp:=plan_ok kt2 kn2 (okpB_ok kt2_okp) (by decide) (by decide) (by decide) kt2_fit (planB_ok kt2_plan) (by decide +kernel)
 rw [kt2_is] at hp
 unfold kt2 kn2 netD at hp
 have hs:=sameren_pure [⟨⟨#[47,97]⟩,⟨#[101,116,104,48]⟩,⟨#[114,101,110,97,109,101,48]⟩⟩,⟨⟨#[47,98]⟩,⟨#[101,116,104,49]⟩,⟨#[101,116,104,48]⟩⟩,⟨⟨#[47,97]⟩,⟨#[114,101,110,97,109,101,48]⟩,⟨#[101,116,104,49]⟩⟩] [⟨⟨#[47,97]⟩,⟨#[101,116,104,48]⟩,⟨#[114,101,110,97,109,101,48]⟩⟩,⟨⟨#[47,98]⟩,⟨#[101,116,104,49]⟩,⟨#[101,116,104,48]⟩⟩,⟨⟨#[47,97]⟩,⟨#[114,101,110,97,109,101,48]⟩,⟨#[101,116,104,49]⟩⟩] (by decide) (by decide)
 rw [decide_eq_true rfl] at hs
 refine pcalls_of Tryz.func12 rfl (by simp [Tryz.ntmps12]) ?_
 rw [Tryz.ntmps12,Tryz.results12]
 push_cast [iO,tN]
 repeat' (first |  ((refine plc [] (ha) ?_ ?_;push_cast [iO,tN];rintro r os ⟨rfl,rfl⟩;push_cast [iO,tN]))  | ((first|refine pG ?_|refine pQ ?_|refine pU ?_);push_cast [iO,tN])|(refine pif (fun h=>?_) (fun h=>?_)<;>first|exact pN h|push_cast [iO,tN]))
 refine pl_weak (weak_aggrows 22 (trE kt2) rfl (by simp [kt2,netD,trE,Dev.d,D.e,leCs,leC,leRows,leDs,leD,isEmp])) ?_
 simp only [kt2,netD]
 push_cast [iO,tN]
 (refine plc [] (hp) ?_ ?_;push_cast [iO,tN];rintro r os ⟨rfl,rfl⟩;push_cast [iO,tN])
 repeat' (first |  ((refine plc [] (hs) ?_ ?_;push_cast [iO,tN];rintro r os ⟨rfl,rfl⟩;push_cast [iO,tN]))  | ((first|refine pG ?_|refine pQ ?_|refine pU ?_);push_cast [iO,tN])|(refine pif (fun h=>?_) (fun h=>?_)<;>first|exact pN h|push_cast [iO,tN]))
 (refine retK_of [] ?_;push_cast [iO,tN])
set_option maxRecDepth 20000
theorem slash_nil:slashS ⟨#[]⟩=false:=by decide
theorem slash_get {s:ByteArray} (h:s≠⟨#[]⟩):slashS s=decide ((((s.data.toList.getD 0 0).toNat:Nat):Int)=47):=by
 unfold slashS Lib.hasPrefix
 cases e:s.data.toList with
 | nil=>exact absurd (by cases s;simp only at e;congr;exact Array.toList_inj.1 e) h
 | cons b l =>
  rw [Bool.eq_iff_iff]
  simp only [List.isPrefixOf,Bool.and_true,beq_iff_eq,decide_eq_true_eq,List.getD_cons_zero]
  constructor
  ·rintro rfl;rfl
  ·intro h
   have:b.toNat=47:=by omega
   exact (UInt8.toNat_inj.1 this).symm
theorem size_pos {s:ByteArray} (h:s≠⟨#[]⟩):0 < s.size:=by
 rcases Nat.eq_zero_or_pos s.size with h0|h0
 ·exact absurd (by obtain ⟨⟨l⟩⟩:=s;cases l with
   | nil=>rfl
   | cons b l=>simp [ByteArray.size] at h0) h
 ·exact h0
def rsplitR:Option (List ByteArray) → PV
 | some l=>.two (.c (.sl 1 (l.map strD))) (.c (.v (.bool true)))
 | none=>.two (.c (.v (.slice none 0 0))) (.c (.v (.bool false)))
attribute [push_cast] rsplitR
set_option maxHeartbeats 1000000 in
theorem rsplit_pure (s:ByteArray) (hs:s.size≤100000000) :
  PCalls Tryz.prog 71 [.c (.v (.string s))] [] fun r os=>r=rsplitR (splitP s)∧os=[]:=by
 have hrs:=rest_size s
 have hps:=parts_size (s:=restS s)
 have hpm:=fun x hx=>parts_mem (s:=restS s) (x:=x) hx
 refine pcalls_of Tryz.func71 rfl (by simp [Tryz.ntmps71]) ?_
 rw [Tryz.ntmps71,Tryz.results71]
 push_cast [iO,tN]
 have cB:CutB 6 []:=trivial
 by_cases h1:s=⟨#[]⟩
 ·have e1:=eq_true h1
  have hsp:splitP s=none:=by unfold splitP;rw [if_neg (by rw [h1,slash_nil];simp)]
  rw [hsp]
  repeat' (first|((first|refine pC ?_|refine pQC ?_|refine pU ?_);push_cast [iO,tN,e1])|(refine pif (fun h=>?_) (fun h=>?_)<;>first|exact pN h|push_cast [iO,tN,e1]))
  (refine retK_of [] ?_;push_cast [iO,tN])
 ·have hpos:=size_pos h1
  have hsl:=slash_get h1
  by_cases h2:(((s.data.toList.getD 0 0).toNat:Nat):Int)=47
  ·rw [decide_eq_true h2] at hsl
   have hre:s.extract 1 s.size=restS s:=by unfold restS;rw [if_pos hsl]
   have hsp:splitP s=if (parts (restS s)).all validS=true then some (parts (restS s)) else none:=by unfold splitP;rw [hsl];simp
   obtain ⟨l,hl⟩:∃ l,parts (restS s)=l:=⟨_,rfl⟩
   have hspl:=split_pure (restS s) (by omega)
   rw [hl] at hps hspl hsp
   simp only [hl] at hpm
   have htk:=List.take_of_length_le (l:=l.map strD) (i:=l.length) (by simp)
   have e2:=eq_true h2
   repeat' (first|(refine plc [] (hspl) ?_ ?_;push_cast [iO,tN,h1,e2,hre,ne_eq,not_true_eq_false];rintro r os ⟨rfl,rfl⟩;push_cast [iO,tN,h1,e2,hre,ne_eq,not_true_eq_false])|((first|refine pC ?_|refine pQC ?_|refine pU ?_);push_cast [iO,tN,h1,e2,hre,ne_eq,not_true_eq_false])|(refine pif (fun h=>?_) (fun h=>?_)<;>first|exact pN h|push_cast [iO,tN,h1,e2,hre,ne_eq,not_true_eq_false]))
   refine pwp_weak (weak_frz 0 (by omega)) ?_
   push_cast [iO,tN,htk]
   (apply pwp_loop3 (α:=Nat) 6 [] (fun k=>[(5,.c (.v (.int .i64 k)))]) (fun k=>[]) (fun k=>k≤l.length∧(l.take k).all validS=true) (fun k=>l.length - k) (0);(focus ((try push_cast [iO,tN]);rfl));(focus exact ⟨by omega,rfl⟩);(focus ((refine weak_fg ?_;try push_cast [iO,tN]))))
   rintro k ⟨hk,ha⟩
   push_cast [iO,tN]
   by_cases hlt:k < l.length
   ·have hm:l.getD k default ∈ l:=by rw [getD_lt l hlt];exact List.getElem_mem _
    have hvp:=rvalid_pure (l.getD k default) (by have:=hpm _ hm;omega)
    cases hv:validS (l.getD k default)
    ·rw [hv] at hvp
     have hal:l.all validS=false:=List.all_eq_false.2 ⟨_,hm,by rw [hv];decide⟩
     rw [hal] at hsp
     simp only [Bool.false_eq_true,if_false] at hsp
     repeat' (first |  (refine plc [] (hvp) ?_ ?_;push_cast [iO,tN];rintro r os ⟨rfl,rfl⟩;push_cast [iO,tN])  | ((first|refine pC ?_|refine pQC ?_|refine pU ?_);push_cast [iO,tN])|(refine pif (fun h=>?_) (fun h=>?_)<;>first|exact pN h|push_cast [iO,tN]))
     rw [hsp]
     (refine retK_of [] ?_;push_cast [iO,tN])
    ·rw [hv] at hvp
     repeat' (first |  (refine plc [] (hvp) ?_ ?_;push_cast [iO,tN];rintro r os ⟨rfl,rfl⟩;push_cast [iO,tN])  | ((first|refine pC ?_|refine pQC ?_|refine pU ?_);push_cast [iO,tN])|(refine pif (fun h=>?_) (fun h=>?_)<;>first|exact pN h|push_cast [iO,tN]))
     refine ⟨k+1,⟨by omega,?_⟩,by (refine weak_fg ?_;push_cast [iO,tN]),by omega⟩
     rw [List.take_succ_eq_append_getElem hlt,List.all_append,ha,← getD_lt l hlt,List.all_cons,hv];rfl
   ·rw [List.take_of_length_le (by omega)] at ha
    rw [ha] at hsp
    simp only [if_true] at hsp
    repeat' (first|((first|refine pC ?_|refine pQC ?_|refine pU ?_);push_cast [iO,tN])|(refine pif (fun h=>?_) (fun h=>?_)<;>first|exact pN h|push_cast [iO,tN]))
    rw [hsp]
    (refine retK_of [] ?_;push_cast [iO,tN])
  ·rw [decide_eq_false h2] at hsl
   have hsp:splitP s=none:=by unfold splitP;rw [if_neg (by rw [hsl];simp)]
   rw [hsp]
   repeat' (first|((first|refine pC ?_|refine pQC ?_|refine pU ?_);push_cast [iO,tN,h1,h2,ne_eq,not_false_eq_true])|(refine pif (fun h=>?_) (fun h=>?_)<;>first|exact pN h|push_cast [iO,tN,h1,h2,ne_eq,not_false_eq_true]))
   (refine retK_of [] ?_;push_cast [iO,tN])
set_option maxRecDepth 20000
theorem split_len {s:ByteArray} {l:List ByteArray} (h:splitP s=some l) (hs:s.size≤100000000):l.length≤1000000000:=by
 unfold splitP at h
 split at h
 ·injection h with h
  have h1:=rest_size s
  have h2:=parts_size (s:=restS s)
  rw [h] at h2
  omega
 ·cases h
set_option maxHeartbeats 8000000 in
theorem rvalid23_pure (l:List Wsh) (h:WshFit l) :
  PCalls Tryz.prog 37 [.c (.sl 2 (l.map Wsh.d))] [] fun r os=>r = .c (.v (.bool (wshOk l)))∧os=[]:=by
 have hlen:=h.len
 refine pcalls_of Tryz.func37 rfl (by simp [Tryz.ntmps37]) ?_
 rw [Tryz.ntmps37,Tryz.results37]
 push_cast [iO,tN]
 have cB:CutB 9 [79]:=trivial
 repeat' (first|((first|refine pC ?_|refine pQC ?_|refine pU ?_);push_cast [iO,tN])|(refine pif (fun h=>?_) (fun h=>?_)<;>first|exact pN h|push_cast [iO,tN]))
 (apply pwp_loop3 (α:=Nat) 9 [79] (fun k=>[(3,.c (.v (.int .i64 k)))]) (fun k=>[]) (fun k=>k≤l.length∧∀ j,j < k → wshAt l j=true) (fun k=>l.length - k) (0);(focus ((try push_cast [iO,tN]);rfl));(focus exact ⟨Nat.zero_le _,fun j hj=>by omega⟩);(focus ((refine weak_fg ?_;try push_cast [iO,tN]))))
 rintro k ⟨hk,hpre⟩
 push_cast [iO,tN]
 by_cases hlt:k < l.length
 case neg =>
  have hok:wshOk l=true:=List.all_eq_true.2 fun j hj=>hpre j (by have:=List.mem_range.1 hj;omega)
  repeat' (first|((first|refine pC ?_|refine pQC ?_|refine pU ?_);push_cast [iO,tN])|(refine pif (fun h=>?_) (fun h=>?_)<;>first|exact pN h|push_cast [iO,tN]))
  (refine retK_of [] ?_;push_cast [iO,tN,hok])
 obtain ⟨w,hw⟩:∃ w,l.getD k default=w:=⟨_,rfl⟩
 have hm:w ∈ l:=by rw [← hw,getD_lt l hlt];exact List.getElem_mem _
 have hsp:=rsplit_pure w.path (h.path w hm)
 have hcn:=h.cnt w hm
 have hat:wshAt l k=(((splitP w.path).isSome && (decide (k=0) || decide (cmpP (l.getD (k - 1) default).path w.path < 0))) && namesOk w.names):=by unfold wshAt;rw [hw]
 cases hS:splitP w.path with
 | none =>
  rw [hS] at hsp hat
  have hno:=wshOk_no hlt (hat.trans rfl)
  repeat' (first|((refine plc [] (hsp) ?_ ?_;push_cast [iO,tN,hw];rintro r os ⟨rfl,rfl⟩;push_cast [iO,tN,hw]))|((first|refine pC ?_|refine pQC ?_|refine pU ?_);push_cast [iO,tN,hw])|(refine pif (fun h=>?_) (fun h=>?_)<;>first|exact pN h|push_cast [iO,tN,hw]))
  (refine retK_of [] ?_;push_cast [iO,tN,hno])
 | some ps =>
  rw [hS] at hsp hat
  have hpl:=split_len hS (h.path w hm)
  simp only [Option.isSome_some,Bool.true_and] at hat
  by_cases h0:k=0
  ·have hc2:¬ (0:Int) < (k:Int):=by omega
   have hat2:wshAt l k=namesOk w.names:=by rw [hat,decide_eq_true h0,Bool.true_or,Bool.true_and]
   repeat' (first|((refine plc [] (hsp) ?_ ?_;push_cast [iO,tN,hw,hc2];rintro r os ⟨rfl,rfl⟩;push_cast [iO,tN,hw,hc2]))|((first|refine pC ?_|refine pQC ?_|refine pU ?_);push_cast [iO,tN,hw,hc2])|(refine pif (fun h=>?_) (fun h=>?_)<;>first|exact pN h|push_cast [iO,tN,hw,hc2]))
   (apply pwp_loop3 (α:=Nat) 9 [79] (fun q=>[(8,.c (.v (.int .i64 q)))]) (fun q=>[]) (fun q=>q≤w.names.length∧∀ j,j < q → (ifaceS (w.names.getD j default)=true∧inM (w.names.getD j default) (w.names.take j)=false)) (fun q=>w.names.length - q) (0);(focus ((try push_cast [iO,tN]);rfl));(focus exact ⟨Nat.zero_le _,fun j hj=>by omega⟩);(focus ((refine weak_fg ?_;try push_cast [iO,tN]))))
   rintro q ⟨hq,hpq⟩
   push_cast [iO,tN]
   by_cases hqt:q < w.names.length
   ·obtain ⟨s,hs⟩:∃ s,w.names.getD q default=s:=⟨_,rfl⟩
    have hsm:s ∈ w.names:=by rw [← hs,getD_lt _ hqt];exact List.getElem_mem _
    have hif:=riface_pure s (h.siz w hm s hsm)
    have hct:=rin5_pure (w.names.take q) s (by rw [List.length_take];omega)
    rw [List.map_take] at hct
    cases hI:ifaceS s with
    | false =>
     rw [hI] at hif
     have hno:=wshOk_no hlt (hat2.trans (namesOk_no hqt (.inl (by rw [hs];exact hI))))
     repeat' (first|((refine ql_call2 false rfl rfl (by kernel_rfl) (hif) (fun r os h=>h.1) rfl ?_ ?_;push_cast [iO,tN,hw,hs];refine ql_of_qops ?_;push_cast [iO,tN,hw,hs]))|((refine ql_call2 false rfl rfl (by kernel_rfl) (hct) (fun r os h=>h.1) rfl ?_ ?_;push_cast [iO,tN,hw,hs];refine ql_of_qops ?_;push_cast [iO,tN,hw,hs]))|((first|refine pC ?_|refine pQC ?_|refine pU ?_);push_cast [iO,tN,hw,hs])|(refine pif (fun h=>?_) (fun h=>?_)<;>first|exact pN h|push_cast [iO,tN,hw,hs]))
     (refine retK_of [] ?_;push_cast [iO,tN,hno])
    | true =>
     rw [hI] at hif
     cases hC:inM s (w.names.take q) with
     | true =>
      rw [hC] at hct
      have hno:=wshOk_no hlt (hat2.trans (namesOk_no hqt (.inr (by rw [hs];exact hC))))
      repeat' (first|((refine ql_call2 false rfl rfl (by kernel_rfl) (hif) (fun r os h=>h.1) rfl ?_ ?_;push_cast [iO,tN,hw,hs];refine ql_of_qops ?_;push_cast [iO,tN,hw,hs]))|((refine ql_call2 false rfl rfl (by kernel_rfl) (hct) (fun r os h=>h.1) rfl ?_ ?_;push_cast [iO,tN,hw,hs];refine ql_of_qops ?_;push_cast [iO,tN,hw,hs]))|((first|refine pC ?_|refine pQC ?_|refine pU ?_);push_cast [iO,tN,hw,hs])|(refine pif (fun h=>?_) (fun h=>?_)<;>first|exact pN h|push_cast [iO,tN,hw,hs]))
      (refine retK_of [] ?_;push_cast [iO,tN,hno])
     | false =>
      rw [hC] at hct
      repeat' (first|((refine ql_call2 false rfl rfl (by kernel_rfl) (hif) (fun r os h=>h.1) rfl ?_ ?_;push_cast [iO,tN,hw,hs];refine ql_of_qops ?_;push_cast [iO,tN,hw,hs]))|((refine ql_call2 false rfl rfl (by kernel_rfl) (hct) (fun r os h=>h.1) rfl ?_ ?_;push_cast [iO,tN,hw,hs];refine ql_of_qops ?_;push_cast [iO,tN,hw,hs]))|((first|refine pC ?_|refine pQC ?_|refine pU ?_);push_cast [iO,tN,hw,hs])|(refine pif (fun h=>?_) (fun h=>?_)<;>first|exact pN h|push_cast [iO,tN,hw,hs]))
      refine ⟨q+1,⟨by omega,fun j hj=>?_⟩,by (refine weak_fg ?_;push_cast [iO,tN]),by omega⟩
      by_cases e:j=q
      ·rw [e,hs];exact ⟨hI,hC⟩
      ·exact hpq j (by omega)
   ·have hok:wshAt l k=true:=by
     rw [hat2]
     refine List.all_eq_true.2 fun j hj=>?_
     obtain ⟨h1,h2⟩:=hpq j (by have:=List.mem_range.1 hj;omega)
     rw [h1,h2];rfl
    repeat' (first|((first|refine pC ?_|refine pQC ?_|refine pU ?_);push_cast [iO,tN,hw])|(refine pif (fun h=>?_) (fun h=>?_)<;>first|exact pN h|push_cast [iO,tN,hw]))
    refine ⟨k+1,⟨by omega,fun j hj=>?_⟩,by (refine weak_fg ?_;push_cast [iO,tN]),by omega⟩
    by_cases e:j=k
    ·rw [e];exact hok
    ·exact hpre j (by omega)
  ·obtain ⟨m,hkm⟩:∃ m,k=m+1:=⟨k - 1,by omega⟩
   have hm1:k - 1=m:=by omega
   have hpm:=hpre m (by omega)
   rw [hm1,decide_eq_false h0,Bool.false_or] at hat
   obtain ⟨v,hv⟩:∃ v,l.getD m default=v:=⟨_,rfl⟩
   have hvm:v ∈ l:=by rw [← hv,getD_lt l (by omega)];exact List.getElem_mem _
   have hsv:=rsplit_pure v.path (h.path v hvm)
   have hc2:(0:Int) < (k:Int):=by omega
   have hc3:(k:Int) - 1=(m:Int):=by omega
   have hc4:m < l.length:=by omega
   cases hSv:splitP v.path with
   | none =>
    exfalso
    unfold wshAt at hpm
    rw [hv,hSv] at hpm
    cases hpm
   | some qs =>
    rw [hSv] at hsv
    have hql:=split_len hSv (h.path v hvm)
    have hcp:=rcompare_pure qs ps hql hpl
    have hce:cmpP v.path w.path=cmpL qs ps:=by unfold cmpP;rw [hSv,hS]
    rw [hv,hce] at hat
    by_cases hord:cmpL qs ps < 0
    case neg =>
     have hno:=wshOk_no hlt (by rw [hat,decide_eq_false hord];rfl)
     have hc1:0≤cmpL qs ps:=by omega
     repeat' (first|((refine plc [] (hsp) ?_ ?_;push_cast [iO,tN,hw,hv,hc1,hc2,hc3];rintro r os ⟨rfl,rfl⟩;push_cast [iO,tN,hw,hv,hc1,hc2,hc3]))|((refine plc [] (hsv) ?_ ?_;push_cast [iO,tN,hw,hv,hc1,hc2,hc3];rintro r os ⟨rfl,rfl⟩;push_cast [iO,tN,hw,hv,hc1,hc2,hc3]))|((refine plc [] (hcp) ?_ ?_;push_cast [iO,tN,hw,hv,hc1,hc2,hc3];rintro r os ⟨rfl,rfl⟩;push_cast [iO,tN,hw,hv,hc1,hc2,hc3]))|((first|refine pC ?_|refine pQC ?_|refine pU ?_);push_cast [iO,tN,hw,hv,hc1,hc2,hc3])|(refine pif (fun h=>?_) (fun h=>?_)<;>first|exact pN h|push_cast [iO,tN,hw,hv,hc1,hc2,hc3]))
     (refine retK_of [] ?_;push_cast [iO,tN,hno])
    case pos =>
     have hat2:wshAt l k=namesOk w.names:=by rw [hat,decide_eq_true hord,Bool.true_and]
     have hc1:¬ 0≤cmpL qs ps:=by omega
     repeat' (first|((refine plc [] (hsp) ?_ ?_;push_cast [iO,tN,hw,hv,hc1,hc2,hc3];rintro r os ⟨rfl,rfl⟩;push_cast [iO,tN,hw,hv,hc1,hc2,hc3]))|((refine plc [] (hsv) ?_ ?_;push_cast [iO,tN,hw,hv,hc1,hc2,hc3];rintro r os ⟨rfl,rfl⟩;push_cast [iO,tN,hw,hv,hc1,hc2,hc3]))|((refine plc [] (hcp) ?_ ?_;push_cast [iO,tN,hw,hv,hc1,hc2,hc3];rintro r os ⟨rfl,rfl⟩;push_cast [iO,tN,hw,hv,hc1,hc2,hc3]))|((first|refine pC ?_|refine pQC ?_|refine pU ?_);push_cast [iO,tN,hw,hv,hc1,hc2,hc3])|(refine pif (fun h=>?_) (fun h=>?_)<;>first|exact pN h|push_cast [iO,tN,hw,hv,hc1,hc2,hc3]))
     (apply pwp_loop3 (α:=Nat) 9 [79] (fun q=>[(8,.c (.v (.int .i64 q)))]) (fun q=>[]) (fun q=>q≤w.names.length∧∀ j,j < q → (ifaceS (w.names.getD j default)=true∧inM (w.names.getD j default) (w.names.take j)=false)) (fun q=>w.names.length - q) (0);(focus ((try push_cast [iO,tN]);rfl));(focus exact ⟨Nat.zero_le _,fun j hj=>by omega⟩);(focus ((refine weak_fg ?_;try push_cast [iO,tN]))))
     rintro q ⟨hq,hpq⟩
     push_cast [iO,tN]
     by_cases hqt:q < w.names.length
     ·obtain ⟨s,hs⟩:∃ s,w.names.getD q default=s:=⟨_,rfl⟩
      have hsm:s ∈ w.names:=by rw [← hs,getD_lt _ hqt];exact List.getElem_mem _
      have hif:=riface_pure s (h.siz w hm s hsm)
      have hct:=rin5_pure (w.names.take q) s (by rw [List.length_take];omega)
      rw [List.map_take] at hct
      cases hI:ifaceS s with
      | false =>
       rw [hI] at hif
       have hno:=wshOk_no hlt (hat2.trans (namesOk_no hqt (.inl (by rw [hs];exact hI))))
       repeat' (first|((refine ql_call2 false rfl rfl (by kernel_rfl) (hif) (fun r os h=>h.1) rfl ?_ ?_;push_cast [iO,tN,hw,hs];refine ql_of_qops ?_;push_cast [iO,tN,hw,hs]))|((refine ql_call2 false rfl rfl (by kernel_rfl) (hct) (fun r os h=>h.1) rfl ?_ ?_;push_cast [iO,tN,hw,hs];refine ql_of_qops ?_;push_cast [iO,tN,hw,hs]))|((first|refine pC ?_|refine pQC ?_|refine pU ?_);push_cast [iO,tN,hw,hs])|(refine pif (fun h=>?_) (fun h=>?_)<;>first|exact pN h|push_cast [iO,tN,hw,hs]))
       (refine retK_of [] ?_;push_cast [iO,tN,hno])
      | true =>
       rw [hI] at hif
       cases hC:inM s (w.names.take q) with
       | true =>
        rw [hC] at hct
        have hno:=wshOk_no hlt (hat2.trans (namesOk_no hqt (.inr (by rw [hs];exact hC))))
        repeat' (first|((refine ql_call2 false rfl rfl (by kernel_rfl) (hif) (fun r os h=>h.1) rfl ?_ ?_;push_cast [iO,tN,hw,hs];refine ql_of_qops ?_;push_cast [iO,tN,hw,hs]))|((refine ql_call2 false rfl rfl (by kernel_rfl) (hct) (fun r os h=>h.1) rfl ?_ ?_;push_cast [iO,tN,hw,hs];refine ql_of_qops ?_;push_cast [iO,tN,hw,hs]))|((first|refine pC ?_|refine pQC ?_|refine pU ?_);push_cast [iO,tN,hw,hs])|(refine pif (fun h=>?_) (fun h=>?_)<;>first|exact pN h|push_cast [iO,tN,hw,hs]))
        (refine retK_of [] ?_;push_cast [iO,tN,hno])
       | false =>
        rw [hC] at hct
        repeat' (first|((refine ql_call2 false rfl rfl (by kernel_rfl) (hif) (fun r os h=>h.1) rfl ?_ ?_;push_cast [iO,tN,hw,hs];refine ql_of_qops ?_;push_cast [iO,tN,hw,hs]))|((refine ql_call2 false rfl rfl (by kernel_rfl) (hct) (fun r os h=>h.1) rfl ?_ ?_;push_cast [iO,tN,hw,hs];refine ql_of_qops ?_;push_cast [iO,tN,hw,hs]))|((first|refine pC ?_|refine pQC ?_|refine pU ?_);push_cast [iO,tN,hw,hs])|(refine pif (fun h=>?_) (fun h=>?_)<;>first|exact pN h|push_cast [iO,tN,hw,hs]))
        refine ⟨q+1,⟨by omega,fun j hj=>?_⟩,by (refine weak_fg ?_;push_cast [iO,tN]),by omega⟩
        by_cases e:j=q
        ·rw [e,hs];exact ⟨hI,hC⟩
        ·exact hpq j (by omega)
     ·have hok:wshAt l k=true:=by
       rw [hat2]
       refine List.all_eq_true.2 fun j hj=>?_
       obtain ⟨h1,h2⟩:=hpq j (by have:=List.mem_range.1 hj;omega)
       rw [h1,h2];rfl
      repeat' (first|((first|refine pC ?_|refine pQC ?_|refine pU ?_);push_cast [iO,tN,hw])|(refine pif (fun h=>?_) (fun h=>?_)<;>first|exact pN h|push_cast [iO,tN,hw]))
      refine ⟨k+1,⟨by omega,fun j hj=>?_⟩,by (refine weak_fg ?_;push_cast [iO,tN]),by omega⟩
      by_cases e:j=k
      ·rw [e];exact hok
      ·exact hpre j (by omega)
end Go.Proofs.YthconflkbeipoaaGreatDoor
