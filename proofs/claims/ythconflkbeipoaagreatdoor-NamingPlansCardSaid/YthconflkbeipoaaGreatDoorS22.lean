/- What the program computes, and the plain laws of it, part 22. -/
import Derived.Test.YthconflkbeipoaaGreatDoorS21
namespace Go.Proofs.YthconflkbeipoaaGreatDoor
attribute [local irreducible] PL QL PWPr PCalls Weak RetK Kontr PA
open Go.RowKit
open IntWalk renaming iteOmega → iO, toNatUp → tN
structure HidM (X:Prop):Prop where
 out:X
theorem meet {X Y:Prop} (f:HidM X → Y) (x:X):Y:=f ⟨x⟩
end Go.Proofs.YthconflkbeipoaaGreatDoor
namespace Go.Proofs.YthconflkbeipoaaGreatDoor
attribute [local irreducible] PL QL PWPr PCalls Weak RetK Kontr PA
open Go.RowKit
open IntWalk renaming iteOmega → iO, toNatUp → tN
set_option linter.unusedVariables false
set_option linter.unusedSimpArgs false
set_option maxRecDepth 20000
theorem slash_fit {n:Nat} (h:n≤100000000):((⟨#[47]⟩:ByteArray).size:Int)+(n:Int)≤9223372036854775807:=by
 have:(⟨#[47]⟩:ByteArray).size=1:=rfl
 omega
theorem slash_fit2 {n:Nat} (h:n≤100000000):(n:Int)+((⟨#[47]⟩:ByteArray).size:Int)≤9223372036854775807:=by
 have:(⟨#[47]⟩:ByteArray).size=1:=rfl
 omega
theorem texts_read {w:World} {I:Nat → Prop}:∀ (l:List ByteArray) (vs:List Value),All2 (RD w I) (l.map strD).flatten vs → vs=l.map Value.string
 | [],vs,h=>by simpa [All2.nil_l] using h
 | a :: l,vs,h=>by
  simp only [List.map_cons,List.flatten_cons,strD,List.cons_append,List.nil_append] at h
  obtain ⟨y,vs',rfl,h5,h6⟩:=All2.cons_l.1 h
  rw [RD] at h5
  rw [h5.1,texts_read l vs' h6];rfl
theorem sjoin_pure (ps:List ByteArray) (h0:0 < ps.length) (hN:ps.length≤1000000) (hlen:(Lib.join (ps.map (·.data.toList)) [47]).length≤140737488355328) :
  PCalls Tryz.prog 131 [.c (.sl 1 (ps.map strD)),.c (.v (.string (⟨#[47]⟩)))] [] fun r os=>r = .c (.v (.string ⟨(Lib.join (ps.map (·.data.toList)) [47]).toArray⟩))∧os=[]:=by
 unfold PCalls
 intro Γ w xs hm hx
 obtain ⟨y,m',rfl,h1,h2⟩:=All2.cons_l.1 hx
 obtain ⟨z,m2,rfl,h3,h4⟩:=All2.cons_l.1 h2
 rw [All2.nil_l] at h4
 subst h4
 obtain ⟨A,c,cs,rfl,hc,hr,_,ha⟩:=rd_sl.1 h1
 have hcs:=texts_read ps cs ha
 subst hcs
 rw [List.length_map] at hc hr
 obtain ⟨b,o,rfl,_,hb,hcell⟩:=hr.2 h0
 have hz:z = .string ⟨#[47]⟩:=h3.1
 subst hz
 have hl:(ps.map strD).length=ps.length:=List.length_map _
 rw [hl]
 refine (strings_Join b o c ps ⟨#[47]⟩ w (fun j x hj=>hcell j _ (by rw [List.getElem?_map,hj];rfl)) hb (by omega) hc hlen).mono ?_
 rintro e w' ⟨rfl,hB⟩
 have hE:=ext_of_below hB
 exact ⟨_,[],Γ,_,rfl,⟨rfl,rfl⟩,⟨rfl,rfl⟩,Nat.le_refl _,hm.same (Same.of_ext hE),ext_grow hE⟩
theorem join_joinL:∀ ps:List (List UInt8),ps≠[] → 47 :: Lib.join ps [47]=joinL ps
 | [],h=>absurd rfl h
 | p :: ps,_=>by
  rw [Lib.join_cons,joinL_cons]
  rfl
theorem joinL_len {B:Nat}:∀ {ps:List (List UInt8)},(∀ p ∈ ps,p.length≤B) → (joinL ps).length≤ps.length * (B+1)
 | [],_=>by simp [joinL]
 | p :: ps,h=>by
  have h1:=joinL_len fun q hq=>h q (List.mem_cons_of_mem _ hq)
  have h2:=h p List.mem_cons_self
  rw [joinL_cons,List.length_cons,List.length_append,List.length_cons,Nat.add_mul]
  omega
theorem ba_ext {a b:ByteArray} (h:a.data.toList=b.data.toList):a=b:=by cases a;cases b;simp only at h;congr;exact Array.toList_inj.1 h
theorem rjoin_pure (ps:List ByteArray) (h0:0 < ps.length) (hN:ps.length≤1000) (hz:∀ p ∈ ps,p.size≤1000) :
  PCalls Tryz.prog 94 [.c (.sl 1 (ps.map strD))] [] fun r os=>r = .c (.v (.string (joinP ps)))∧os=[]:=by
 have hL:(joinL (ps.map (·.data.toList))).length≤ps.length * 1001:=by
  have:=joinL_len (B:=1000) (ps:=ps.map (·.data.toList)) fun q hq=>by obtain ⟨x,hx,rfl⟩:=List.mem_map.1 hq;exact hz x hx
  rwa [List.length_map] at this
 have hne:ps.map (·.data.toList)≠[]:=fun h=>by rw [List.map_eq_nil_iff] at h;subst h;simp at h0
 have hjj:=join_joinL _ hne
 have hlen:(Lib.join (ps.map (·.data.toList)) [47]).length≤140737488355328:=by
  have:=congrArg List.length hjj
  rw [List.length_cons] at this
  omega
 have hc:=sjoin_pure ps h0 (by omega) hlen
 obtain ⟨t,ht⟩:∃ t:ByteArray,(⟨(Lib.join (ps.map (·.data.toList)) [47]).toArray⟩:ByteArray)=t:=⟨_,rfl⟩
 have he:⟨#[47]⟩++t=joinP ps:=by
  apply ba_ext
  rw [joinP_list,← hjj,← ht]
  simp
 rw [ht] at hc
 have htz:t.size≤1001000:=by
  rw [← ht]
  have:=congrArg List.length hjj
  rw [List.length_cons] at this
  show (Lib.join (ps.map (·.data.toList)) [47]).toArray.size≤_
  rw [List.size_toArray]
  omega
 refine pcalls_of Tryz.func94 rfl (by simp [Tryz.ntmps94]) ?_
 rw [Tryz.ntmps94,Tryz.results94]
 push_cast [iO,tN]
 have hf:=slash_fit (n:=t.size) (by omega)
 repeat' (first|(refine plc [] (hc) ?_ ?_;push_cast [iO,tN,hf];rintro r os ⟨rfl,rfl⟩;push_cast [iO,tN,hf])|((first|refine pG ?_|refine pQ ?_|refine pU ?_);push_cast [iO,tN,hf])|(refine pif (fun h=>?_) (fun h=>?_)<;>first|exact pN h|push_cast [iO,tN,hf]))
 (refine retK_of [] ?_;push_cast [iO,tN,he])
theorem orig_size {l:List Dev} {B:Nat} (hz:∀ d ∈ l,d.original.size≤B) (n:Int):∀ p ∈ origM l n,p.size≤B:=fun p hp=>by
 unfold origM at hp
 rw [List.mem_reverse] at hp
 obtain ⟨d,hd,rfl⟩:=List.mem_map.1 hp
 exact hz d (chainGo_mem _ _ d hd)
set_option maxHeartbeats 1000000 in
theorem rplace_pure (l:List Dev) (n:Int) (hl:l.length≤1000) (hz:∀ d ∈ l,d.original.size≤1000) :
  PCalls Tryz.prog 45 [.agg (trE l),.c (.v (.int .i64 n))] [] fun r os=>r = .c (.v (.string (placeM l n)))∧os=[]:=by
 have hc:=rorigin_pure l n (by omega)
 have hol:=orig_len l n
 have hos:=orig_size hz n
 unfold placeM
 obtain ⟨ps,hps⟩:∃ ps,origM l n=ps:=⟨_,rfl⟩
 rw [hps] at hc hol hos ⊢
 have htk:=List.take_of_length_le (l:=ps.map strD) (i:=ps.length) (by simp)
 refine pcalls_of Tryz.func45 rfl (by simp [Tryz.ntmps45]) ?_
 rw [Tryz.ntmps45,Tryz.results45]
 push_cast [iO,tN]
 by_cases h0:0 < ps.length
 ·have hj:=rjoin_pure ps h0 (by omega) hos
  have h0':(0:Int) < (ps.length:Int):=by omega
  repeat' (first|(refine plc [] (hc) ?_ ?_;push_cast [iO,tN,h0',htk];rintro r os ⟨rfl,rfl⟩;push_cast [iO,tN,h0',htk])|(refine pl_call2 true [] rfl rfl (by kernel_rfl) (hj) ?_ ?_ ?_;push_cast [iO,tN,h0',htk];(intro _ r os;rintro ⟨rfl,rfl⟩;push_cast [iO,tN,h0',htk]);rintro r os ⟨rfl,rfl⟩;refine pl_of_pops ?_;push_cast [iO,tN,h0',htk])|((first|refine pG ?_|refine pQ ?_|refine pU ?_);push_cast [iO,tN,h0',htk])|(refine pif (fun h=>?_) (fun h=>?_)<;>first|exact pN h|push_cast [iO,tN,h0',htk]))
  (refine retK_of [] ?_;push_cast [iO,tN])
 ·have he:ps=[]:=List.eq_nil_of_length_eq_zero (by omega)
  subst he
  repeat' (first |  (refine plc [] (hc) ?_ ?_;push_cast [iO,tN];rintro r os ⟨rfl,rfl⟩;push_cast [iO,tN])  | ((first|refine pG ?_|refine pQ ?_|refine pU ?_);push_cast [iO,tN])|(refine pif (fun h=>?_) (fun h=>?_)<;>first|exact pN h|push_cast [iO,tN]))
  (refine retK_of [] ?_;push_cast [iO,tN])
  all_goals rfl
theorem beneath_walk (a b:ByteArray) (ha:a.size≤1000000) (w:World) :
  Calls Tryz.prog 160 #[.string a,.string b] w fun e w'=>e = .returned (.bool (beneath a b))∧w'=w:=by
 have h:=strings_HasPrefix b (a++⟨#[47]⟩) w
 unfold beneath
 go_enter Tryz.func160,Tryz.ntmps160
 go_wp2_with (go_at_call 167;refine h.mono ?_;rintro e w' ⟨rfl,rfl⟩)
 go_ret
 exact ⟨rfl,rfl⟩
theorem rbeneath_pure (a b:ByteArray) (ha:a.size≤1000000):PCalls Tryz.prog 160 [.c (.v (.string a)),.c (.v (.string b))] [] fun r os=>r = .c (.v (.bool (beneath a b)))∧os=[] :=
 pcalls_plain [.string a,.string b] _ rfl fun w _=>(beneath_walk a b ha w).mono fun e w' ⟨he,hw⟩=>by rw [he,hw];exact ⟨rfl,Below.refl _ _⟩
set_option maxRecDepth 20000
def placeE (l:List Dev) (i:Nat):List (MK × List D):=(List.range i).map fun j=>(.i .i64 (l.getD j default).index,[.v (.int .i64 (j:Int))])
def origE (l:List Dev) (i:Nat):List (MK × List D):=(l.take i).map fun d=>(.i .i64 d.index,[.v (.string (placeM l d.index))])
theorem mget_orig (l:List Dev) (n:Int):∀ m:List Dev,mget (m.map fun d=>(.i .i64 d.index,[.v (.string (placeM l d.index))])) (.i .i64 n)=(findD m n).map fun _=>[D.v (.string (placeM l n))]
 | []=>rfl
 | d :: m=>by
  rw [List.map_cons,mget]
  unfold findD
  by_cases h:d.index=n
  ·rw [List.find?_cons_of_pos (by simpa using h)]
   subst h
   simp
  ·rw [List.find?_cons_of_neg (by simpa using h),if_neg (by simp [h])]
   exact mget_orig l n m
theorem mput_new:∀ (es:List (MK × List D)) (k:MK) (r:List D),mget es k=none → mput es k r=es++[(k,r)]
 | [],k,r,_=>rfl
 | e :: es,k,r,h=>by
  obtain ⟨k',r'⟩:=e
  rw [mget] at h
  split at h
  ·cases h
  ·rename_i hk
   rw [mput,if_neg hk,mput_new es k r h];rfl
theorem mget_place (l:List Dev) (n:Int):∀ i,i≤l.length → (∀ j,j < i → (l.getD j default).index≠n) → mget (placeE l i) (.i .i64 n)=none:=by
 intro i hi h
 unfold placeE
 have key:∀ js:List Nat,(∀ j ∈ js,j < i) → mget (js.map fun j=>((MK.i .i64 (l.getD j default).index:MK),[D.v (.int .i64 (j:Int))])) (.i .i64 n)=none:=by
  intro js
  induction js with
  | nil=>intro _;rfl
  | cons j js ih =>
   intro hj
   rw [List.map_cons,mget,if_neg (fun e=>h j (hj j (by simp)) (by injection e))]
   exact ih fun x hx=>hj x (by simp [hx])
 exact key _ fun j hj=>List.mem_range.1 hj
theorem mget_origE (l:List Dev) (i:Nat) (n:Int):mget (origE l i) (.i .i64 n)=(findD (l.take i) n).map fun _=>[D.v (.string (placeM l n))]:=mget_orig l n _
theorem above_eq {l:List Dev} (h:Okp l) {i:Nat} (hi:i < l.length):(findD (l.take i) (l.getD i default).parent=none → placeM l (l.getD i default).parent=⟨#[]⟩):=fun hn=>by
 rcases h.par i hi with h0|⟨j,hj,hp⟩
 ·rw [getD_lt l hi,h0]
  unfold placeM
  rw [orig_none (find0 h.pos (by omega))]
  rfl
 ·exfalso
  have hm:l[j] ∈ l.take i:=by rw [List.mem_take_iff_getElem];exact ⟨j,by omega,rfl⟩
  exact findD_none.1 hn _ hm (by rw [getD_lt l hi];exact hp)
theorem lk_above {l:List Dev} (h:Okp l) {i:Nat} (hi:i < l.length):lkP false (.c (.v (.string ⟨#[]⟩))) false (mget (origE l i) (.i .i64 (l.getD i default).parent))=some (.c (.v (.string (placeM l (l.getD i default).parent)))):=by
 rw [mget_origE]
 cases hf:findD (l.take i) (l.getD i default).parent with
 | none=>rw [above_eq h hi hf];rfl
 | some d=>rfl
theorem place_step {l:List Dev} (h:Okp l) {i:Nat} (hi:i < l.length):placeM l (l.getD i default).index=placeM l (l.getD i default).parent++⟨#[47]⟩++(l.getD i default).original:=by
 have hm:l.getD i default ∈ l:=by rw [getD_lt l hi];exact List.getElem_mem _
 unfold placeM
 rw [orig_step h hm,joinP_snoc]
theorem new_index {l:List Dev} (h:Okp l) {i:Nat} (hi:i < l.length):∀ j,j < i → (l.getD j default).index≠(l.getD i default).index:=fun j hj e=>by
 have hp:=List.pairwise_iff_getElem.1 h.nodup j i (by simp;omega) (by simp;omega) hj
 simp only [List.getElem_map] at hp
 rw [getD_lt l (by omega),getD_lt l hi] at e
 exact hp e
theorem put_place {l:List Dev} (h:Okp l) {i:Nat} (hi:i < l.length):mput (placeE l i) (.i .i64 (l.getD i default).index) [.v (.int .i64 (i:Int))]=placeE l (i+1):=by
 rw [mput_new _ _ _ (mget_place l _ i (by omega) (new_index h hi))]
 unfold placeE
 rw [List.range_succ,List.map_append];rfl
theorem put_orig {l:List Dev} (h:Okp l) {i:Nat} (hi:i < l.length):mput (origE l i) (.i .i64 (l.getD i default).index) [.v (.string (placeM l (l.getD i default).index))]=origE l (i+1):=by
 rw [mput_new]
 ·unfold origE
  rw [List.take_succ_eq_append_getElem hi,List.map_append,← getD_lt l hi];rfl
 ·rw [mget_origE,findD_none.2 fun d hd e=>?_]
  ·rfl
  ·obtain ⟨j,hj,rfl⟩:=List.mem_take_iff_getElem.1 hd
   exact new_index h hi j (by omega) (by rw [getD_lt l (by omega)];exact e)
theorem place_size {l:List Dev} (hl:l.length≤1000) (hz:∀ d ∈ l,d.original.size≤1000) (n:Int):(placeM l n).size≤1001000:=by
 have h1:=orig_len l n
 have h2:=orig_size hz n
 have h3:=joinL_len (B:=1000) (ps:=(origM l n).map (·.data.toList)) fun q hq=>by obtain ⟨x,hx,rfl⟩:=List.mem_map.1 hq;exact h2 x hx
 have h4:(placeM l n).size=(joinL ((origM l n).map (·.data.toList))).length:=by unfold placeM;rw [← joinP_list];rfl
 rw [h4]
 rw [List.length_map] at h3
 have h5:(origM l n).length * 1001≤1000 * 1001:=Nat.mul_le_mul_right _ (by omega)
 omega
theorem emp_fit {n:Nat} (h:n≤100000000):(n:Int)+((⟨#[47]⟩:ByteArray).size:Int)≤9223372036854775807:=slash_fit2 h
set_option maxHeartbeats 4000000 in
theorem look_pure (l:List Dev) (h:Okp l) (hl:l.length≤1000) (hz:∀ d ∈ l,d.original.size≤1000) :
  PCalls Tryz.prog 55 [.agg (trE l)] [] fun r os=>r = .agg [.sl 10 (l.map Dev.d),.mp 0,.mp 1]∧os=[.map (some .i64) false (placeE l l.length),.map (some .i64) false (origE l l.length)]:=by
 refine pcalls_of Tryz.func55 rfl (by simp [Tryz.ntmps55]) ?_
 rw [Tryz.ntmps55,Tryz.results55]
 push_cast [iO,tN]
 have cB:CutB 7 [13,14,15]:=trivial
 repeat' (first|((first|refine pC ?_|refine pQC ?_|refine pU ?_);push_cast [iO,tN])|(refine pif (fun h=>?_) (fun h=>?_)<;>first|exact pN h|push_cast [iO,tN]))
 (apply pwp_loop3 (α:=Nat) 7 [13,14,15] (fun i=>[(15,.c (.v (.int .i64 i)))]) (fun i=>[(2,.map (some .i64) false (placeE l i)),(3,.map (some .i64) false (origE l i))]) (fun i=>i≤l.length) (fun i=>l.length - i) (0);(focus ((try push_cast [iO,tN]);rfl));(focus exact (Nat.zero_le _));(focus ((refine weak_fg ?_;try push_cast [iO,tN]);(try (exact ⟨rfl,rfl⟩)))))
 intro i hi
 push_cast [iO,tN]
 by_cases hlt:i < l.length
 case neg =>
  have hi2:i=l.length:=by omega
  subst hi2
  repeat' (first|((first|refine pC ?_|refine pQC ?_|refine pU ?_);push_cast [iO,tN])|(refine pif (fun h=>?_) (fun h=>?_)<;>first|exact pN h|push_cast [iO,tN]))
  (refine retK_of [2,3] ?_;push_cast [iO,tN])
 refine pwp_seq fun K1 hK1=>?_
 refine pwp_region ?_
 push_cast [iO,tN]
 refine Kont.use (by assumption) ?_
 refine pwp_seq fun K2 hK2=>?_
 refine pwp_cond ?_
 push_cast [iO,tN]
 refine ⟨fun _=>?_,fun h'=>absurd (show (i:Int) < (l.length:Int) by omega) (of_decide_eq_false h')⟩
 refine pwp_skip ?_
 push_cast [iO,tN]
 refine Kont.use (by assumption) ?_
 refine pwp_seq fun K3 hK3=>?_
 refine pwp_block ?_
 refine pwp_seq fun K4 hK4=>?_
 refine pwp_region ?_
 push_cast [iO,tN]
 refine Kont.use (by assumption) ?_
 refine pwp_cut 7 [13,14,15] ?_
 push_cast [iO,tN]
 refine pwp_seq fun K5 hK5=>?_
 refine pwp_regionL ?_
 have hlk:=lk_above h hlt
 have hps:=place_size hl hz (l.getD i default).parent
 have hoz:(l.getD i default).original.size≤1000:=hz _ (by rw [getD_lt l hlt];exact List.getElem_mem _)
 refine pl_run1 (q:=.c (.ptr 4 2)) rfl (by push_cast [iO,tN]) (by push_cast [iO,tN]) ?_
 push_cast [iO,tN]
 refine pl_run1 (q:=.c (.mp 3)) rfl (by push_cast [iO,tN]) (by push_cast [iO,tN]) ?_
 push_cast [iO,tN]
 refine pl_run1 (q:=.c (.ptr 5 1)) rfl (by push_cast [iO,tN]) (by push_cast [iO,tN]) ?_
 push_cast [iO,tN]
 refine pl_run1 (q:=.c (.v (.int .i64 (l.getD i default).parent))) rfl (by push_cast [iO,tN]) (by push_cast [iO,tN]) ?_
 push_cast [iO,tN]
 refine pl_run1 (q:=.c (.v (.string (placeM l (l.getD i default).parent)))) rfl (by push_cast [iO,tN,hlk]) (by push_cast [iO,tN]) ?_
 push_cast [iO,tN]
 refine pl_cat rfl rfl rfl rfl (emp_fit (by omega)) (by push_cast [iO,tN]) ?_
 push_cast [iO,tN]
 refine pl_run1 (q:=.c (.ptr 5 3)) rfl (by push_cast [iO,tN]) (by push_cast [iO,tN]) ?_
 push_cast [iO,tN]
 refine pl_run1 (q:=.c (.v (.string (l.getD i default).original))) rfl (by push_cast [iO,tN]) (by push_cast [iO,tN]) ?_
 push_cast [iO,tN]
 refine pl_cat rfl rfl rfl rfl ?_ (by push_cast [iO,tN]) ?_
 ·rw [ByteArray.size_append,show (⟨#[47]⟩:ByteArray).size=1 from rfl];omega
 push_cast [iO,tN]
 refine pl_of_pops ?_
 push_cast [iO,tN]
 refine Kont.use (by assumption) ?_
 rw [← place_step h hlt]
 have hpp:=put_place h hlt
 have hpo:=put_orig h hlt
 refine pwp_cut 7 [13,14,15] ?_
 push_cast [iO,tN]
 repeat' (first|((refine pwp_cut 7 [13,14,15] ?_;apply pwp_drawn_to;(focus kernel_rfl);(focus (simp only [List.length_cons,List.length_nil,Nat.reduceAdd];(repeat' first|((first|refine pah 0 ?_|refine pah 2 ?_|refine pah 4 ?_|refine pah 6 ?_|refine pah 8 ?_|refine pah 9 ?_);push_cast [iO,tN,hpp,hpo])|(refine pad ?_;first|with_reducible exact weak_cutS 7 [13,14,15] _|(refine weak_fg ?_;push_cast [iO,tN,hpp,hpo]))|((first|refine pas [1] ?_|refine pas [3] ?_|refine pas [5] ?_|refine pas [7] ?_|refine pas [10] ?_|refine pas [11] ?_);push_cast [iO,tN,hpp,hpo])|((first|refine pas [1,3] ?_|refine pas [1,5] ?_|refine pas [1,7] ?_|refine pas [3,5] ?_|refine pas [3,7] ?_|refine pas [5,7] ?_|refine pas [5,10] ?_|refine pas [7,10] ?_);push_cast [iO,tN,hpp,hpo];refine ⟨?_,?_⟩)|((first|refine pas [1,3,5] ?_|refine pas [1,3,7] ?_|refine pas [1,5,7] ?_|refine pas [3,5,7] ?_|refine pas [5,7,10] ?_);push_cast [iO,tN,hpp,hpo];refine ⟨?_,?_,?_⟩)|((first|refine pas [1,3,5,7] ?_);push_cast [iO,tN,hpp,hpo];refine ⟨?_,?_,?_,?_⟩));done));push_cast [iO,tN,hpp,hpo]))|((first|refine pC ?_|refine pQC ?_|refine pU ?_);push_cast [iO,tN,hpp,hpo])|(refine pif (fun h=>?_) (fun h=>?_)<;>first|exact pN h|push_cast [iO,tN,hpp,hpo]))
 exact ⟨i+1,by omega,by (refine weak_fg ?_;push_cast [iO,tN]),by omega⟩
set_option maxRecDepth 20000
theorem cloneA_pure (l:List Atr) (hl:l.length≤1000000000) :
  PCalls Tryz.prog 113 [.c (.sl 2 (l.map Atr.d))] [] fun r os=>r = .c (.own 0 l.length)∧os=[.arr 33 2 (l.map Atr.d)]:=by
 refine pcalls_adopt (R:=fun r os=>(r = .c (.own 0 l.length)∧os=[.arr 33 2 (l.map Atr.d)])∨(r = .c (.v (.slice none 0 0))∧os=[]∧l=[])) 33 2 (by omega) ?_ (by
  rintro r os (h|⟨rfl,rfl,rfl⟩)
  ·exact .inl h
  ·exact .inr ⟨rfl,rfl,rfl⟩)
 by_cases h0:l=[]
 ·subst h0
  refine pcalls_split0 (l1:=[]) (l2:=[]) fun A c=>?_
  cases A with
  | none =>
   refine PCalls.mono (R:=fun r os=>r = .c (.v (.slice none 0 0))∧os=[]) ?_ (fun r os h=>.inr ⟨h.1,h.2,rfl⟩)
   refine pcalls_of Tryz.func113 rfl (by simp [Tryz.ntmps113]) ?_
   rw [Tryz.ntmps113,Tryz.results113]
   push_cast [iO,tN]
   repeat' (first|((first|refine pG ?_|refine pQ ?_|refine pU ?_);push_cast [iO,tN])|(refine pif (fun h=>?_) (fun h=>?_)<;>first|exact pN h|push_cast [iO,tN]))
   (refine retK_of [] ?_;push_cast [iO,tN])
  | some a =>
   refine PCalls.mono (R:=fun r os=>r = .c (.own 0 0)∧os=[.arr 33 2 []]) ?_ (fun r os h=>.inl h)
   refine pcalls_of Tryz.func113 rfl (by simp [Tryz.ntmps113]) ?_
   rw [Tryz.ntmps113,Tryz.results113]
   push_cast [iO,tN]
   repeat' (first|((first|refine pG ?_|refine pQ ?_|refine pU ?_);push_cast [iO,tN])|(refine pif (fun h=>?_) (fun h=>?_)<;>first|exact pN h|push_cast [iO,tN]))
   (refine retK_of [0] ?_;push_cast [iO,tN])
 ·have h1:0 < l.length:=List.length_pos_iff.2 h0
  refine PCalls.mono (R:=fun r os=>r = .c (.own 0 l.length)∧os=[.arr 33 2 (l.map Atr.d)]) ?_ (fun r os h=>.inl h)
  refine pcalls_of Tryz.func113 rfl (by simp [Tryz.ntmps113]) ?_
  rw [Tryz.ntmps113,Tryz.results113]
  push_cast [iO,tN]
  repeat' (first|((first|refine pG ?_|refine pQ ?_|refine pU ?_);push_cast [iO,tN])|(refine pif (fun h=>?_) (fun h=>?_)<;>first|exact pN h|push_cast [iO,tN]))
  (refine retK_of [0] ?_;push_cast [iO,tN])
set_option maxRecDepth 20000
def PredD (P:Program) (g:FuncId) (ks:List Nat) (os:List Ob) (l:List Dev) (q:Dev → Bool):Prop:=bodyOk P g=true∧∀ x ∈ l,PCalls P g (.agg x.e :: ks.map fun k=>.c (.ptr k 0)) os fun r os'=>r = .c (.v (.bool (q x)))∧os'=os
def idxD (q:Dev → Bool) (l:List Dev) (k:Int):Prop:=(k = -1∧∀ x ∈ l,q x=false)∨∃ i:Nat,k=i∧i < l.length∧q (l.getD i default)=true∧∀ x ∈ l.take i,q x=false
theorem allSomeD:∀ ks:List Nat,allSome (ks.map fun k=>some (PV.c (.ptr k 0))) (ks.map fun k=>PV.c (.ptr k 0))
 | []=>trivial
 | k :: ks=>⟨leP_refl _,allSomeD ks⟩
theorem indexFuncD_pure (l:List Dev) (hl:l.length≤1000000000) (g:FuncId) (ks:List Nat) (os:List Ob) (q:Dev → Bool) (hp:PredD Tryz.prog g ks os l q) :
  PCalls Tryz.prog 59 [.c (.sl 10 (l.map Dev.d)),.c (.fn (.func g) [] ks)] os fun r os'=>∃ k,idxD q l k∧r = .c (.v (.int .i64 k))∧os'=os:=by
 refine pcalls_of_all Tryz.func59 rfl (by simp [Tryz.ntmps59]) ?_
 rw [Tryz.ntmps59,Tryz.results59]
 push_cast [iO,tN]
 repeat' (first|((first|refine pG ?_|refine pQ ?_|refine pU ?_);push_cast [iO,tN])|(refine pif (fun h=>?_) (fun h=>?_)<;>first|exact pN h|push_cast [iO,tN]))
 refine pwp_loop2 (α:=Nat) (fun k=>k≤l.length∧∀ x ∈ l.take k,q x=false) (fun k=>⟨[(8,.c (.v (.int .i64 k))),(7,.c (.v (.int .i64 l.length))),(6,.c (.sl 10 (l.map Dev.d))),(0,.c (.sl 10 (l.map Dev.d))),(1,.c (.fn (.func g) [] ks))],os⟩) (fun k=>l.length - k) 0 ⟨by omega,by simp⟩ (weak_slots (by push_cast [iO,tN]) rfl) ?_
 rintro k ⟨hk,hpre⟩
 by_cases hlt:k < l.length
 ·have hm:l.getD k default ∈ l:=by rw [getD_lt l hlt];exact List.getElem_mem _
  have hc:=hp.2 _ hm
  have hpre2:q (l.getD k default)=false → ∀ x ∈ l.take (k+1),q x=false:=fun h x hx=>by
   rw [List.take_succ_eq_append_getElem hlt] at hx
   rcases List.mem_append.1 hx with hx|hx
   ·exact hpre x hx
   ·simp at hx;subst hx;rw [← getD_lt l hlt];exact h
  cases hq:q (l.getD k default)
  all_goals rw [hq] at hc
  all_goals repeat' (first |  (refine pl_call_all rfl (by push_cast [iO,tN]) rfl hp.1 (by push_cast [iO,tN]) ?_ hc ?_;(focus (unfold callArgs;push_cast [iO,tN];exact allSomeD ks));rintro r os ⟨rfl,rfl⟩;refine pl_of_pops ?_;push_cast [iO,tN])  | ((first|refine pG ?_|refine pQ ?_|refine pU ?_);push_cast [iO,tN])|(refine pif (fun h=>?_) (fun h=>?_)<;>first|exact pN h|push_cast [iO,tN]))
  ·exact ⟨k+1,⟨by omega,hpre2 hq⟩,weak_slots (by push_cast [iO,tN]) rfl,by omega⟩
  ·exact ⟨_,rfl,by push_cast [iO,tN],k,.inr ⟨k,rfl,hlt,hq,hpre⟩,rfl,rfl⟩
 ·rw [List.take_of_length_le (by omega)] at hpre
  repeat' (first|((first|refine pG ?_|refine pQ ?_|refine pU ?_);push_cast [iO,tN])|(refine pif (fun h=>?_) (fun h=>?_)<;>first|exact pN h|push_cast [iO,tN]))
  exact ⟨_,rfl,by push_cast [iO,tN],-1,.inl ⟨rfl,hpre⟩,rfl,rfl⟩
set_option maxRecDepth 20000
theorem place_none {l:List Dev} {n:Int} (h:findD l n=none):placeM l n=⟨#[]⟩:=by unfold placeM;rw [orig_none h];rfl
theorem lk_full (l:List Dev) (n:Int):lkP false (.c (.v (.string ⟨#[]⟩))) true (mget (origE l l.length) (.i .i64 n))=some (.two (.c (.v (.string (placeM l n)))) (.c (.v (.bool (findD l n).isSome)))):=by
 rw [mget_origE,List.take_length]
 cases hf:findD l n with
 | none=>rw [place_none hf];rfl
 | some d=>rfl
theorem lk_full0 (l:List Dev) (n:Int):lkP false (.c (.v (.string ⟨#[]⟩))) false (mget (origE l l.length) (.i .i64 n))=some (.c (.v (.string (placeM l n)))):=by
 rw [mget_origE,List.take_length]
 cases hf:findD l n with
 | none=>rw [place_none hf];rfl
 | some d=>rfl
theorem origin_pure (l:List Dev) (n:Int) (h:Okp l) (hl:l.length≤1000) (hz:∀ d ∈ l,d.original.size≤1000) :
  PCalls Tryz.prog 101 [.agg (trE l),.c (.v (.int .i64 n))] [] fun r os=>r = .two (.c (.v (.string (placeM l n)))) (.c (.v (.bool ((findD l n).isSome))))∧os=[]:=by
 have hk:=look_pure l h hl hz
 have hlk:=lk_full l n
 refine pcalls_of Tryz.func101 rfl (by simp [Tryz.ntmps101]) ?_
 rw [Tryz.ntmps101,Tryz.results101]
 push_cast [iO,tN]
 repeat' (first|(refine plc [] (hk) ?_ ?_;push_cast [iO,tN,hlk];rintro r os ⟨rfl,rfl⟩;push_cast [iO,tN,hlk])|((first|refine pG ?_|refine pQ ?_|refine pU ?_);push_cast [iO,tN,hlk])|(refine pif (fun h=>?_) (fun h=>?_)<;>first|exact pN h|push_cast [iO,tN,hlk]))
 (refine retK_of [] ?_;push_cast [iO,tN])
theorem copied_pure (d:Dev) (hl:d.attrs.length≤1000000000):PCalls Tryz.prog 64 [.agg d.e] [] fun r os=>r = .agg d.e∧os=[]:=by
 have hc:=cloneA_pure d.attrs hl
 refine pcalls_of Tryz.func64 rfl (by simp [Tryz.ntmps64]) ?_
 rw [Tryz.ntmps64,Tryz.results64]
 push_cast [iO,tN]
 repeat' (first |  (refine plc [] (hc) ?_ ?_;push_cast [iO,tN];rintro r os ⟨rfl,rfl⟩;push_cast [iO,tN])  | ((first|refine pG ?_|refine pQ ?_|refine pU ?_);push_cast [iO,tN])|(refine pif (fun h=>?_) (fun h=>?_)<;>first|exact pN h|push_cast [iO,tN]))
 (refine retK_of [] ?_;push_cast [iO,tN])
end Go.Proofs.YthconflkbeipoaaGreatDoor
