/- What the program computes, and the plain laws of it, part 30. -/
import Derived.Test.YtmjffgienmcabaaR28
namespace Go.Proofs.Ytmjffgienmcabaa
open Go.RowKit
open IntWalk renaming iteOmega → iO, toNatUp → tN
set_option linter.unusedVariables false
set_option linter.unusedSimpArgs false
def freeV (M:List Mod) (W st:List ByteArray) (s:ByteArray):Bool:=!(st.any fun o=>inM s (needsOf M o)) && !inM s W
theorem freeV_congr {M:List Mod} {W st st':List ByteArray} (h:∀ x,x ∈ st ↔ x ∈ st') (s:ByteArray):freeV M W st s=freeV M W st' s:=by
 have:(st.any fun o=>inM s (needsOf M o))=(st'.any fun o=>inM s (needsOf M o)):=by
  rw [Bool.eq_iff_iff,List.any_eq_true,List.any_eq_true]
  simp only [h]
 unfold freeV
 rw [this]
def unlF (M:List Mod) (W:List ByteArray):Nat → List ByteArray → List ByteArray × List ByteArray
 | 0,st=>([],st)
 | n+1,st=>match st.find? (freeV M W st) with
  | none=>([],st)
  | some b=>(b :: (unlF M W n (st.filter fun x=>decide (x≠b))).1,(unlF M W n (st.filter fun x=>decide (x≠b))).2)
def unlM (M:List Mod) (W loaded:List ByteArray):List ByteArray × List ByteArray:=unlF M W (ascOf loaded).length (ascOf loaded)
structure UInv (M:List Mod) (W S0 gone st:List ByteArray):Prop where
 asc:asc st
 eq:unlF M W S0.length S0=(gone++(unlF M W st.length st).1,(unlF M W st.length st).2)
 len:st.length+gone.length≤S0.length
theorem UInv.start {M:List Mod} {W S0:List ByteArray} (h:Go.Proofs.Ytmjffgienmcabaa.asc S0):UInv M W S0 [] S0:=⟨h,by simp,by simp⟩
theorem UInv.step {M:List Mod} {W S0 gone st:List ByteArray} {b:ByteArray} (h:UInv M W S0 gone st) (hb:st.find? (freeV M W st)=some b):UInv M W S0 (gone++[b]) (st.filter fun x=>decide (x≠b)):=by
 have hm:=List.mem_of_find?_eq_some hb
 have hl:=filter_len (asc_nodup h.asc) hm
 refine ⟨h.asc.sublist List.filter_sublist,?_,?_⟩
 ·rw [h.eq,← hl]
  simp only [unlF,hb,List.append_assoc,List.cons_append,List.nil_append]
 ·have:=h.len;simp only [List.length_append,List.length_cons,List.length_nil];omega
theorem UInv.stop {M:List Mod} {W S0 gone st:List ByteArray} (h:UInv M W S0 gone st) (hb:st.find? (freeV M W st)=none):unlF M W S0.length S0=(gone,st):=by
 rw [h.eq]
 cases st.length with
 | zero=>simp [unlF]
 | succ n=>simp [unlF,hb]
theorem unl_len (M:List Mod) (W:List ByteArray):∀ (n:Nat) (st:List ByteArray),(unlF M W n st).1.length≤n∧(unlF M W n st).2.length≤st.length
 | 0,st=>by simp [unlF]
 | n+1,st=>by
  unfold unlF
  split
  ·simp
  ·rename_i b _
   obtain ⟨h1,h2⟩:=unl_len M W n (st.filter fun x=>decide (x≠b))
   have h3:=List.length_filter_le (fun x=>decide (x≠b)) st
   simp only [List.length_cons]
   exact ⟨by omega,by omega⟩
theorem unlM_len (M:List Mod) (W l:List ByteArray):(unlM M W l).1.length≤l.length∧(unlM M W l).2.length≤l.length:=by
 obtain ⟨h1,h2⟩:=unl_len M W (ascOf l).length (ascOf l)
 have h3:=(ascOf_spec l).2.2
 unfold unlM
 exact ⟨by omega,by omega⟩
def minS (q:ByteArray → Bool) (o:Option ByteArray) (x:ByteArray):Option ByteArray:=if q x then (match o with|none=>some x|some b=>if bless x b then some x else some b) else o
def minF (q:ByteArray → Bool) (l:List ByteArray):Option ByteArray:=l.foldl (minS q) none
theorem minF_snoc (q:ByteArray → Bool) (l:List ByteArray) (x:ByteArray):minF q (l++[x])=minS q (minF q l) x:=by unfold minF;rw [List.foldl_append];rfl
theorem minF_next {q:ByteArray → Bool} {l:List ByteArray} {k:Nat} (hk:k < l.length):minF q (l.take (k+1))=minS q (minF q (l.take k)) (l.getD k default):=by
 rw [List.take_succ_eq_append_getElem hk,minF_snoc,getD_lt l hk]
theorem minF_fold (q:ByteArray → Bool):∀ (l:List ByteArray) (o:Option ByteArray),(∀ b,o=some b → q b=true) →
  match l.foldl (minS q) o with
  | none=>o=none∧∀ x ∈ l,q x=false
  | some b=>q b=true∧(b ∈ l∨o=some b)∧(∀ x ∈ l,q x=true → bless x b=false)∧∀ c,o=some c → bless c b=false
 | [],none,_=>by simp
 | [],some b,h=>by
  simp only [List.foldl_nil]
  refine ⟨h b rfl,.inr (by trivial),fun x hx=>(by cases hx),fun c hc=>?_⟩
  cases hc
  exact bless_irrefl b
 | a :: l,o,h=>by
  rw [List.foldl_cons]
  have hs:∀ b,minS q o a=some b → q b=true:=fun b hb=>by
   unfold minS at hb
   split at hb
   ·rename_i ha
    cases o with
    | none=>cases hb;exact ha
    | some c =>
     simp only at hb
     split at hb
     ·cases hb;exact ha
     ·cases hb;exact h _ rfl
   ·exact h b hb
  have ih:=minF_fold q l (minS q o a) hs
  cases hr:l.foldl (minS q) (minS q o a) with
  | none =>
   rw [hr] at ih
   simp only at ih ⊢
   obtain ⟨h1,h2⟩:=ih
   have ha:q a=false:=by
    cases hq:q a
    ·rfl
    ·unfold minS at h1
     rw [if_pos hq] at h1
     cases o with
     | none=>cases h1
     | some c=>simp only at h1;split at h1<;>cases h1
   unfold minS at h1
   rw [if_neg (by simp [ha])] at h1
   refine ⟨h1,fun x hx=>?_⟩
   rcases List.mem_cons.1 hx with rfl|hx
   ·exact ha
   ·exact h2 x hx
  | some b =>
   rw [hr] at ih
   simp only at ih ⊢
   obtain ⟨h1,h2,h3,h4⟩:=ih
   have key:(q a=true → bless a b=false)∧∀ c,o=some c → bless c b=false:=by
    unfold minS at h4
    by_cases ha:q a=true
    ·rw [if_pos ha] at h4
     cases o with
     | none=>exact ⟨fun _=>h4 a rfl,fun c hc=>(by cases hc)⟩
     | some c =>
      simp only at h4
      by_cases hb:bless a c=true
      ·rw [if_pos hb] at h4
       have h5:=h4 a rfl
       refine ⟨fun _=>h5,fun c' hc=>?_⟩
       cases hc
       cases h6:bless c b
       ·rfl
       ·have:=bless_trans hb h6
        rw [this] at h5
        cases h5
      ·rw [if_neg hb] at h4
       have h5:=h4 c rfl
       refine ⟨fun _=>?_,fun c' hc=>(by cases hc;exact h5)⟩
       cases h6:bless a b
       ·rfl
       ·cases h7:bless b c
        ·have e:=bless_total h5 h7
         subst e
         exact absurd h6 hb
        ·exact absurd (bless_trans h6 h7) hb
    ·rw [if_neg ha] at h4
     exact ⟨fun h=>absurd h ha,h4⟩
   refine ⟨h1,?_,fun x hx hq=>?_,key.2⟩
   ·rcases h2 with h2|h2
    ·exact .inl (List.mem_cons_of_mem _ h2)
    ·unfold minS at h2
     split at h2
     ·cases o with
      | none=>cases h2;exact .inl (by simp)
      | some c =>
       simp only at h2
       split at h2
       ·cases h2;exact .inl (by simp)
       ·exact .inr h2
     ·exact .inr h2
   ·rcases List.mem_cons.1 hx with rfl|hx
    ·exact key.1 hq
    ·exact h3 x hx hq
theorem min_find {q:ByteArray → Bool} {l S:List ByteArray} (ha:asc S) (h:∀ x,x ∈ l ↔ x ∈ S):minF q l=S.find? q:=by
 have hf:=minF_fold q l none (fun b hb=>by cases hb)
 unfold minF
 cases hr:l.foldl (minS q) none with
 | none =>
  rw [hr] at hf
  simp only at hf
  exact (List.find?_eq_none.2 fun x hx=>by rw [hf.2 x ((h x).2 hx)];simp).symm
 | some b =>
  rw [hr] at hf
  simp only at hf
  obtain ⟨h1,h2,h3,_⟩:=hf
  have hb:b ∈ S:=(h b).1 (h2.resolve_right (fun e=>by cases e))
  obtain ⟨s1,s2,rfl⟩:=List.append_of_mem hb
  symm
  rw [List.find?_eq_some_iff_append]
  refine ⟨h1,s1,s2,rfl,fun x hx=>?_⟩
  cases hq:q x
  ·rfl
  ·have h4:=h3 x ((h x).2 (by simp [hx])) hq
   have h5:=(List.pairwise_append.1 ha).2.2 x hx b (by simp)
   rw [h5] at h4
   cases h4
theorem ordF_congr {M:List Mod}:∀ (n:Nat) {T T' R:List ByteArray},(∀ x,x ∈ T ↔ x ∈ T') → ordF M n T R=ordF M n T' R
 | 0,_,_,_,_=>rfl
 | n+1,T,T',R,h=>by
  have hc:chooseM M T R=chooseM M T' R:=by unfold chooseM;rw [funext (shouldV_congr h),funext (mayV_congr h)]
  unfold ordF
  rw [hc]
  cases chooseM M T' R with
  | none=>rfl
  | some b =>
   simp only
   rw [ordF_congr n (T:=T++[b]) (T':=T'++[b]) (fun x=>by simp [h])]
def planL (M:List Mod) (loaded W:List ByteArray):List (Int × ByteArray) :=
 (unlM M W loaded).1.map (fun s=>((9:Int),s))++(ordM M (unlM M W loaded).2 (restM (unlM M W loaded).2 W)).map fun s=>((8:Int),s)
theorem ord_left {M:List Mod} {L st W:List ByteArray} (h:∀ x,x ∈ L ↔ x ∈ st):ordM M L (restM L W)=ordM M st (restM st W):=by
 have e:restM L W=restM st W:=by
  unfold restM
  rw [filter_congr_in h]
 rw [e]
 exact ordF_congr _ h
end Go.Proofs.Ytmjffgienmcabaa
namespace Go.Proofs.Ytmjffgienmcabaa
attribute [local irreducible] PL QL PWPr PCalls Weak RetK Kontr PA
open Go.RowKit
open IntWalk renaming iteOmega → iO, toNatUp → tN
set_option linter.unusedVariables false
set_option linter.unusedSimpArgs false
set_option maxRecDepth 20000
def needsE (l:List Mod):List (MK × List D):=l.map fun m=>(.s m.name,[.sl 1 (m.needs.map strD)])
theorem mget_needs (n:ByteArray):∀ l:List Mod,mget (needsE l) (.s n)=(modOf l n).map fun m=>[.sl 1 (m.needs.map strD)]
 | []=>rfl
 | a :: l=>by
  have ih:=mget_needs n l
  simp only [needsE,List.map_cons,mget,MK.s.injEq,modOf,List.find?_cons] at ih ⊢
  by_cases h:a.name=n
  ·simp [h]
  ·simp only [h,if_false,decide_false]
   exact ih
theorem mput_needs (m:Mod):∀ l:List Mod,(∀ x ∈ l,x.name≠m.name) → mput (needsE l) (.s m.name) [.sl 1 (m.needs.map strD)]=needsE (l++[m])
 | [],_=>rfl
 | a :: l,h=>by
  have ih:=mput_needs m l (fun x hx=>h x (by simp [hx]))
  have h1:=h a (by simp)
  simp only [needsE,List.map_cons,mput,MK.s.injEq,h1,if_false,List.cons_append] at ih ⊢
  rw [ih]
theorem take_names {M:List Mod} (hnd:(M.map Mod.name).Nodup) {k:Nat} (hlt:k < M.length):∀ x ∈ M.take k,x.name≠(M.getD k default).name:=by
 intro x hx he
 rw [getD_lt M hlt] at he
 rw [List.mem_iff_getElem?] at hx
 obtain ⟨i,hi⟩:=hx
 rw [List.getElem?_take] at hi
 split at hi
 ·rename_i hik
  have:=(List.getElem?_inj (l:=M.map Mod.name) (i:=i) (j:=k) (by simp;omega) hnd).1 (by rw [List.getElem?_map,List.getElem?_map,hi,List.getElem?_eq_getElem hlt];simp [he])
  omega
 ·cases hi
def unlOs (M:List Mod) (W st:List ByteArray):List Ob:=[.arr 9 1 (st.map strD),.map none false (needsE M),.box 66 [.mp 1],.box 23 [.own 0 st.length],.box 23 [.sl 1 (W.map strD)]]
set_option maxHeartbeats 4000000 in
theorem unl11_pure (M:List Mod) (W st:List ByteArray) (s x:ByteArray) (hl:(needsOf M x).length≤1000000000) :
  PCalls Try.prog 30 [.c (.v (.string x)),.c (.ptr 2 0),.c (.ptr 5 0)] (unlOs M W st++[.box 9 [.v (.string s)]]) fun r os=>r = .c (.v (.bool (inM s (needsOf M x))))∧os=unlOs M W st++[.box 9 [.v (.string s)]]:=by
 unfold needsOf at hl ⊢
 unfold unlOs
 refine pcalls_of Try.func30 rfl (by simp [Try.ntmps30]) ?_
 rw [Try.ntmps30,Try.results30]
 cases hm:modOf M x with
 | none =>
  have hcon:=containsD_pure [] s (by simp)
  have hno:(noMod.needs:List ByteArray)=[]:=rfl
  simp only [Option.getD_none,hno]
  push_cast [iO,tN]
  repeat' (first|((refine plc [] (hcon) ?_ ?_;push_cast [iO,tN,mget_needs,hm];rintro r os ⟨rfl,rfl⟩;push_cast [iO,tN,mget_needs,hm]))|((first|refine pG ?_|refine pQ ?_|refine pU ?_);push_cast [iO,tN,mget_needs,hm])|(refine pif (fun h=>?_) (fun h=>?_)<;>first|exact pN h|push_cast [iO,tN,mget_needs,hm]))
  (refine retK_of [0,1,2,3,4,5] ?_;push_cast [iO,tN])
 | some m =>
  rw [hm] at hl
  have hcon:=containsD_pure m.needs s hl
  simp only [Option.getD_some]
  push_cast [iO,tN]
  repeat' (first|((refine plc [] (hcon) ?_ ?_;push_cast [iO,tN,mget_needs,hm];rintro r os ⟨rfl,rfl⟩;push_cast [iO,tN,mget_needs,hm]))|((first|refine pG ?_|refine pQ ?_|refine pU ?_);push_cast [iO,tN,mget_needs,hm])|(refine pif (fun h=>?_) (fun h=>?_)<;>first|exact pN h|push_cast [iO,tN,mget_needs,hm]))
  (refine retK_of [0,1,2,3,4,5] ?_;push_cast [iO,tN])
set_option maxHeartbeats 4000000 in
theorem unl1_pure (M:List Mod) (W st:List ByteArray) (s:ByteArray) (hl:∀ x,(needsOf M x).length≤1000000000) (hW:W.length≤1000000000) (hst:st.length≤1000000) :
  PCalls Try.prog 28 [.c (.v (.string s)),.c (.ptr 3 0),.c (.ptr 2 0),.c (.ptr 4 0)] (unlOs M W st) fun r os=>r = .c (.v (.bool (freeV M W st s)))∧os=unlOs M W st:=by
 have h11:=fun x=>unl11_pure M W st s x (hl x)
 unfold unlOs at h11
 simp only [List.cons_append,List.nil_append] at h11
 have hcf:=containsFunc_pure st (by omega) 30 [2,5] [.map none false (needsE M),.box 66 [.mp 1],.box 23 [.own 0 st.length],.box 23 [.sl 1 (W.map strD)],.box 9 [.v (.string s)]] (fun x=>inM s (needsOf M x)) ⟨by kernel_rfl,fun x _=>h11 x⟩
 have hcw:=containsD_pure W s hW
 unfold freeV
 unfold unlOs
 refine pcalls_of Try.func28 rfl (by simp [Try.ntmps28]) ?_
 rw [Try.ntmps28,Try.results28]
 cases hb:st.any fun x=>inM s (needsOf M x) with
 | true =>
  rw [hb] at hcf
  push_cast [iO,tN]
  repeat' (first |  ((refine plc [0,1,2,3,4,5] (hcf) ?_ ?_;push_cast [iO,tN];rintro r os ⟨rfl,rfl⟩;push_cast [iO,tN]))  | ((first|refine pG ?_|refine pQ ?_|refine pU ?_);push_cast [iO,tN])|(refine pif (fun h=>?_) (fun h=>?_)<;>first|exact pN h|push_cast [iO,tN]))
  (refine retK_of [0,1,2,3,4] ?_;push_cast [iO,tN])
 | false =>
  rw [hb] at hcf
  push_cast [iO,tN]
  repeat' (first |  ((refine plc [0,1,2,3,4,5] (hcf) ?_ ?_;push_cast [iO,tN];rintro r os ⟨rfl,rfl⟩;push_cast [iO,tN]))|((refine plc [] (hcw) ?_ ?_;push_cast [iO,tN];rintro r os ⟨rfl,rfl⟩;push_cast [iO,tN]))  | ((first|refine pG ?_|refine pQ ?_|refine pU ?_);push_cast [iO,tN])|(refine pif (fun h=>?_) (fun h=>?_)<;>first|exact pN h|push_cast [iO,tN]))
  (refine retK_of [0,1,2,3,4] ?_;push_cast [iO,tN])
set_option maxHeartbeats 8000000 in
theorem unloads_pure (c:Cfg) (loaded W:List ByteArray) (hS:Small c.modules) (hl:loaded.length≤1000) (hW:W.length≤1000000) :
  PCalls Try.prog 16 [.agg c.e,.c (.sl 1 (loaded.map strD)),.c (.sl 1 (W.map strD))] [] fun r os=>r = .two (.c (.sl 1 (((unlM c.modules W loaded).1).map strD))) (.c (.sl 1 (((unlM c.modules W loaded).2).map strD)))∧os=[]:=by
 have hML:=hS.len
 have hnl:∀ x,(needsOf c.modules x).length≤1000000000:=fun x=>by have:=hS.needsOf x;omega
 have hidx:=fun st (hst:st.length≤1000000)=>indexFunc_pure st (by omega) 28 [3,2,4] (unlOs c.modules W st).tail (freeV c.modules W st) ⟨by kernel_rfl,fun x _=>unl1_pure c.modules W st x hnl (by omega) hst⟩
 unfold unlOs at hidx
 simp only [List.tail_cons] at hidx
 refine pcalls_of Try.func16 rfl (by simp [Try.ntmps16]) ?_
 rw [Try.ntmps16,Try.results16]
 push_cast [iO,tN]
 have cB:CutB 14 [16,17,18]:=trivial
 repeat' (first|((first|refine pC ?_|refine pQC ?_|refine pU ?_);push_cast [iO,tN])|(refine pif (fun h=>?_) (fun h=>?_)<;>first|exact pN h|push_cast [iO,tN]))
 (apply pwp_loop3 (α:=Nat) 14 [16,17,18] (fun k=>[(18,.c (.v (.int .i64 k)))]) (fun k=>[(2,.map none false (needsE (c.modules.take k)))]) (fun k=>k≤c.modules.length) (fun k=>c.modules.length - k) (0);(focus ((try push_cast [iO,tN]);rfl));(focus exact (by omega));(focus ((refine weak_fg ?_;try push_cast [iO,tN]);(try (rfl)))))
 intro k hk
 push_cast [iO,tN]
 by_cases hlt:k < c.modules.length
 ·have hput:=mput_needs (c.modules.getD k default) (c.modules.take k) (take_names hS.nodup hlt)
  rw [getD_lt c.modules hlt,← List.take_succ_eq_append_getElem hlt,← getD_lt c.modules hlt] at hput
  repeat' (first|((first|refine pC ?_|refine pQC ?_|refine pU ?_);push_cast [iO,tN,hput])|(refine pif (fun h=>?_) (fun h=>?_)<;>first|exact pN h|push_cast [iO,tN,hput]))
  exact ⟨k+1,by omega,by (refine weak_fg ?_;push_cast [iO,tN]),by omega⟩
 have htk:c.modules.take k=c.modules:=List.take_of_length_le (by omega)
 rw [htk]
 repeat' (first |  ((refine plc [] (clone_pure loaded (by omega)) ?_ ?_;push_cast [iO,tN];rintro r os ⟨rfl,rfl⟩;push_cast [iO,tN]))|((refine plc [4] (sort2_pure loaded (by omega)) ?_ ?_;push_cast [iO,tN];rintro r os ⟨S0,⟨hS1,hS2⟩,rfl,rfl⟩;push_cast [iO,tN]))  | ((first|refine pC ?_|refine pQC ?_|refine pU ?_);push_cast [iO,tN])|(refine pif (fun h=>?_) (fun h=>?_)<;>first|exact pN h|push_cast [iO,tN]))
 have hcp:=compact2_pure S0 (by omega)
 rw [hS1,hS2] at hcp
 have hal:=(ascOf_spec loaded).2.2
 have hasc:=(ascOf_spec loaded).1
 unfold unlM
 obtain ⟨R,hRR⟩:∃ R,ascOf loaded=R:=⟨_,rfl⟩
 rw [hRR] at hcp hal hasc ⊢
 repeat' (first |  ((refine plc [4] (hcp) ?_ ?_;push_cast [iO,tN];rintro r os ⟨m2,rfl,rfl⟩;push_cast [iO,tN]))  | ((first|refine pC ?_|refine pQC ?_|refine pU ?_);push_cast [iO,tN])|(refine pif (fun h=>?_) (fun h=>?_)<;>first|exact pN h|push_cast [iO,tN]))
 have e3:(R.map strD++m2.map strD).take R.length=R.map strD:=List.take_left' (by simp)
 refine pwp_weak (weak_trim 4 R.length rfl) ?_
 push_cast [iO,tN,e3]
 refine pwp_weak (weak_adopt 12 9 1 (by omega) (by push_cast [iO,tN])) ?_
 push_cast [iO,tN]
 (apply pwp_loop3 (α:=List ByteArray × List ByteArray) 14 [16,17,18] (fun x=>[(12,.c (.own 6 (x.1.length)))]) (fun x=>[(4,.arr 9 1 (x.2.map strD)),(5,.box 23 [.own 4 x.2.length]),(6,.arr 9 1 (x.1.map strD))]) (fun x=>UInv c.modules W R x.1 x.2) (fun x=>x.2.length) (([],R));(focus ((try push_cast [iO,tN]);rfl));(focus exact UInv.start hasc);(focus ((refine weak_fg ?_;try push_cast [iO,tN]))))
 rintro ⟨gone,st⟩ hI
 have hlen:=hI.len
 simp only at hI hlen ⊢
 push_cast [iO,tN]
 have hi:=hidx st (by omega)
 have e4:=List.take_of_length_le (l:=gone.map strD) (i:=gone.length) (by simp)
 have e5:=List.take_of_length_le (l:=st.map strD) (i:=st.length) (by simp)
 rcases opt_cases (st.find? (freeV c.modules W st)) with hf|⟨b,hf⟩
 ·have hx:=hi.mono (R':=fun r os=>r = .c (.v (.int .i64 (-1)))∧os=[.arr 9 1 (st.map strD),.map none false (needsE c.modules),.box 66 [.mp 1],.box 23 [.own 0 st.length],.box 23 [.sl 1 (W.map strD)]]) (by rintro r os ⟨k,hk,rfl,rfl⟩;rw [idxQ_none hk hf];exact ⟨rfl,rfl⟩)
  have hfin:=hI.stop hf
  have hR1:(unlF c.modules W R.length R).1=gone:=by rw [hfin]
  have hR2:(unlF c.modules W R.length R).2=st:=by rw [hfin]
  repeat' (first |  (refine pl_call2 false [4,2,3,5,1] rfl rfl (by kernel_rfl) hx ?_ nofun ?_;push_cast [iO,tN];rintro r os ⟨rfl,rfl⟩;refine pl_weak (weak_frz 4 (by omega)) ?_;refine pl_weak (weak_frz 6 (by omega)) ?_;push_cast [iO,tN,e4,e5];refine pl_of_pops ?_;push_cast [iO,tN])  | ((first|refine pC ?_|refine pQC ?_|refine pU ?_);push_cast [iO,tN])|(refine pif (fun h=>?_) (fun h=>?_)<;>first|exact pN h|push_cast [iO,tN]))
  (refine retK_of [] ?_;push_cast [iO,tN,hR1,hR2])
 ·have hx:=hi.mono (R':=fun r os=>∃ i:Nat,(i < st.length∧st.getD i default=b)∧r = .c (.v (.int .i64 i))∧os=[.arr 9 1 (st.map strD),.map none false (needsE c.modules),.box 66 [.mp 1],.box 23 [.own 0 st.length],.box 23 [.sl 1 (W.map strD)]]) (by rintro r os ⟨k,hk,rfl,rfl⟩;obtain ⟨i,h1,rfl⟩:=idxQ_some hk hf;exact ⟨i,h1,rfl,rfl⟩)
  repeat' (first |  ((refine plc [4,2,3,5,1] (hx) ?_ ?_;push_cast [iO,tN];rintro r os ⟨i,⟨hi1,hi2⟩,rfl,rfl⟩;push_cast [iO,tN]))  | ((first|refine pC ?_|refine pQC ?_|refine pU ?_);push_cast [iO,tN])|(refine pif (fun h=>?_) (fun h=>?_)<;>first|exact pN h|push_cast [iO,tN]))
  repeat' (first |  ((refine plc [4] (delete_pure st i hi1 (by omega)) ?_ ?_;push_cast [iO,tN];rintro r os ⟨rfl,rfl⟩;push_cast [iO,tN]))  | ((first|refine pC ?_|refine pQC ?_|refine pU ?_);push_cast [iO,tN])|(refine pif (fun h=>?_) (fun h=>?_)<;>first|exact pN h|push_cast [iO,tN]))
  have hst:=hI.step hf
  have hfl:=filter_len (b:=b) (asc_nodup hI.asc) (by rw [← hi2,getD_lt st hi1];exact List.getElem_mem _)
  have hfr:(st.take i).map strD++(st.drop (i+1)).map strD=(st.filter fun x=>decide (x≠b)).map strD:=by rw [← List.map_append,del_eq (asc_nodup hI.asc) hi1,hi2]
  obtain ⟨R',hR'⟩:∃ R',(st.filter fun x=>decide (x≠b))=R':=⟨_,rfl⟩
  rw [hR'] at hst hfl hfr
  have e6:st.length - 1=R'.length:=by omega
  have e7:((st.take i).map strD++((st.drop (i+1)).map strD++[[D.v (.string ⟨#[]⟩)]])).take (st.length - 1)=R'.map strD:=by rw [← List.append_assoc,hfr];exact List.take_left' (by rw [List.length_map];omega)
  rw [e6] at e7
  exact ⟨(gone++[b],R'),hst,Weak.trans (weak_trim 4 (st.length - 1) rfl) (by (refine weak_fg ?_;push_cast [iO,tN,e6,e7,hi2])),by simp only;omega⟩
set_option maxRecDepth 20000
set_option maxRecDepth 20000
theorem same_pure (a b:List ByteArray) (ha:a.length≤1000000000) (hb:b.length≤1000000000) :
  PCalls Try.prog 12 [.c (.sl 1 (a.map strD)),.c (.sl 1 (b.map strD))] [] fun r os=>r = .c (.v (.bool (decide (a=b))))∧os=[]:=by
 refine pcalls_of Try.func12 rfl (by simp [Try.ntmps12]) ?_
 rw [Try.ntmps12,Try.results12]
 push_cast [iO,tN]
 by_cases hl:a.length=b.length
 ·repeat' (first|((first|refine pG ?_|refine pQ ?_|refine pU ?_);push_cast [iO,tN])|(refine pif (fun h=>?_) (fun h=>?_)<;>first|exact pN h|push_cast [iO,tN]))
  refine pwp_loop2 (α:=Nat) (fun k=>k≤a.length∧a.take k=b.take k) (fun k=>⟨[(5,.c (.v (.int .i64 k))),(0,.c (.sl 1 (a.map strD))),(1,.c (.sl 1 (b.map strD)))],[]⟩) (fun k=>a.length - k) 0 ⟨by omega,by simp⟩ (by (refine weak_fg ?_;push_cast [iO,tN])) ?_
  rintro k ⟨hk,hpre⟩
  by_cases hlt:k < a.length
  ·have hlt':k < b.length:=by omega
   have e1:=getD_lt a hlt
   have e2:=getD_lt b hlt'
   repeat' (first|((first|refine pG ?_|refine pQ ?_|refine pU ?_);push_cast [iO,tN])|(refine pif (fun h=>?_) (fun h=>?_)<;>first|exact pN h|push_cast [iO,tN]))
   ·(refine retK_of [] ?_;push_cast [iO,tN])
    rw [e1,e2] at h
    have:¬ a=b:=fun e=>by subst e;simp at h
    simp [this]
   ·refine ⟨k+1,⟨by omega,?_⟩,by (refine weak_fg ?_;push_cast [iO,tN]),by omega⟩
    rw [e1,e2] at h
    have h':a[k]=b[k]:=by simpa using h
    rw [List.take_succ_eq_append_getElem hlt,List.take_succ_eq_append_getElem hlt',hpre,h']
  ·rw [List.take_of_length_le (by omega),List.take_of_length_le (by omega)] at hpre
   repeat' (first|((first|refine pG ?_|refine pQ ?_|refine pU ?_);push_cast [iO,tN])|(refine pif (fun h=>?_) (fun h=>?_)<;>first|exact pN h|push_cast [iO,tN]))
   (refine retK_of [] ?_;push_cast [iO,tN])
   simp [hpre]
 ·have:¬ a=b:=fun e=>hl (by rw [e])
  repeat' (first|((first|refine pG ?_|refine pQ ?_|refine pU ?_);push_cast [iO,tN])|(refine pif (fun h=>?_) (fun h=>?_)<;>first|exact pN h|push_cast [iO,tN]))
  (refine retK_of [] ?_;push_cast [iO,tN])
  simp [this]
set_option maxRecDepth 20000
def opR (x:Int × ByteArray):List D:=[.v (.int .i64 x.1),.v (.string ⟨#[]⟩),.v (.int .i64 0),.v (.int .i64 0),.v (.string ⟨#[]⟩),.v (.string ⟨#[]⟩),.v (.string ⟨#[]⟩),.v (.string ⟨#[]⟩),.v (.string ⟨#[]⟩),.v (.int .i64 0),.v (.int .i64 0),.v (.slice none 0 0),.v (.string ⟨#[]⟩),.v (.string x.2)]
attribute [push_cast] opR
theorem ordF_len (M:List Mod):∀ (n:Nat) (T R:List ByteArray),(ordF M n T R).length≤n
 | 0,_,_=>by simp [ordF]
 | n+1,T,R=>by
  unfold ordF
  split
  ·simp
  ·simp only [List.length_cons]
   have:=ordF_len M n
   exact Nat.succ_le_succ (this _ _)
theorem ord_len (M:List Mod) (ld R:List ByteArray):(ordM M ld R).length≤R.length:=ordF_len M _ _ _
set_option maxHeartbeats 4000000 in
theorem plan_pureM (c:Cfg) (loaded W:List ByteArray) (hc:CfgOk2 c) (hl:loaded.length≤1000) (hW:W.length≤1000) :
  PCalls Try.prog 7 [.agg c.e,.c (.sl 1 (loaded.map strD)),.c (.sl 1 (W.map strD))] [] fun r os=>r = .c (.sl 14 ((planL c.modules loaded W).map opR))∧os=[]:=by
 have hun:=unloads_pure c loaded W hc.small hl (by omega)
 obtain ⟨hl1,hl2⟩:=unlM_len c.modules W loaded
 unfold planL
 obtain ⟨gone,hg⟩:∃ gone,(unlM c.modules W loaded).1=gone:=⟨_,rfl⟩
 obtain ⟨st,hst⟩:∃ st,(unlM c.modules W loaded).2=st:=⟨_,rfl⟩
 rw [hg,hst] at hun ⊢
 rw [hg] at hl1
 rw [hst] at hl2
 have hor:=dorder_pure c W st hc hW (by omega)
 have hol:=ord_len c.modules st (restM st W)
 have hrl:=(restM_spec st W).2.2
 obtain ⟨o,ho⟩:∃ o,ordM c.modules st (restM st W)=o:=⟨_,rfl⟩
 rw [ho] at hor hol ⊢
 obtain ⟨p,hp⟩:∃ p,gone.map (fun s=>((9:Int),s))++o.map (fun s=>((8:Int),s))=p:=⟨_,rfl⟩
 rw [hp]
 refine pcalls_of Try.func7 rfl (by simp [Try.ntmps7]) ?_
 rw [Try.ntmps7,Try.results7]
 push_cast [iO,tN]
 have cB:CutB 14 [21,22,23,36,37,38]:=trivial
 repeat' (first |  ((refine plc [] (hun) ?_ ?_;push_cast [iO,tN];rintro r os ⟨rfl,rfl⟩;push_cast [iO,tN]))  | ((first|refine pC ?_|refine pQC ?_|refine pU ?_);push_cast [iO,tN])|(refine pif (fun h=>?_) (fun h=>?_)<;>first|exact pN h|push_cast [iO,tN]))
 refine pwp_weak (weak_adopt 9 40 14 (by omega) (by push_cast [iO,tN])) ?_
 push_cast [iO,tN]
 (apply pwp_loop3 (α:=Nat × List (Int × ByteArray)) 14 [21,22,23,36,37,38] (fun x=>[(23,.c (.v (.int .i64 x.1))),(9,.c (.own 1 (x.2.length)))]) (fun x=>[(1,.arr 40 14 (x.2.map opR))]) (fun x=>x.1≤gone.length∧x.2=(gone.take x.1).map fun s=>((9:Int),s)) (fun x=>gone.length - x.1) ((0,[]));(focus ((try push_cast [iO,tN]);rfl));(focus exact ⟨by omega,by simp⟩);(focus ((refine weak_fg ?_;try push_cast [iO,tN]))))
 rintro ⟨k,l⟩ ⟨hk,hlx⟩
 simp only at hk hlx ⊢
 have hll:l.length≤1000:=by rw [hlx,List.length_map,List.length_take];omega
 push_cast [iO,tN]
 by_cases hlt:k < gone.length
 ·have hnx:(gone.take (k+1)).map (fun s=>((9:Int),s))=l++[((9:Int),gone.getD k default)]:=by
   rw [List.take_succ_eq_append_getElem hlt,List.map_append,getD_lt gone hlt,hlx];rfl
  repeat' (first|((first|refine pC ?_|refine pQC ?_|refine pU ?_);push_cast [iO,tN])|(refine pif (fun h=>?_) (fun h=>?_)<;>first|exact pN h|push_cast [iO,tN]))
  exact ⟨(k+1,l++[((9:Int),gone.getD k default)]),⟨by simp only;omega,hnx.symm⟩,by (refine weak_fg ?_;push_cast [iO,tN]),by simp only;omega⟩
 have hk2:k=gone.length:=by omega
 rw [hk2,List.take_length] at hlx
 have e2:=List.take_of_length_le (l:=o.map strD) (i:=o.length) (by simp)
 repeat' (first |  (refine pl_call2 false [] rfl rfl (by kernel_rfl) hor ?_ nofun ?_;push_cast [iO,tN];rintro r os ⟨rfl,rfl⟩;refine pl_weak (weak_frz 2 (by omega)) ?_;push_cast [iO,tN,e2];refine pl_of_pops ?_;push_cast [iO,tN])  | ((first|refine pC ?_|refine pQC ?_|refine pU ?_);push_cast [iO,tN])|(refine pif (fun h=>?_) (fun h=>?_)<;>first|exact pN h|push_cast [iO,tN]))
 (apply pwp_loop3 (α:=Nat × List (Int × ByteArray)) 14 [21,22,23,36,37,38] (fun x=>[(38,.c (.v (.int .i64 x.1))),(9,.c (.own 1 (x.2.length)))]) (fun x=>[(1,.arr 40 14 (x.2.map opR))]) (fun x=>x.1≤o.length∧x.2=l++(o.take x.1).map fun s=>((8:Int),s)) (fun x=>o.length - x.1) ((0,l));(focus ((try push_cast [iO,tN]);rfl));(focus exact ⟨by omega,by simp⟩);(focus ((refine weak_fg ?_;try push_cast [iO,tN]))))
 rintro ⟨j,l2⟩ ⟨hj,hl2x⟩
 simp only at hj hl2x ⊢
 have hll2:l2.length≤10000:=by rw [hl2x,List.length_append,List.length_map,List.length_take];omega
 push_cast [iO,tN]
 by_cases hjt:j < o.length
 ·have hnx:l++(o.take (j+1)).map (fun s=>((8:Int),s))=l2++[((8:Int),o.getD j default)]:=by
   rw [List.take_succ_eq_append_getElem hjt,List.map_append,getD_lt o hjt,hl2x,List.append_assoc];rfl
  repeat' (first|((first|refine pC ?_|refine pQC ?_|refine pU ?_);push_cast [iO,tN])|(refine pif (fun h=>?_) (fun h=>?_)<;>first|exact pN h|push_cast [iO,tN]))
  exact ⟨(j+1,l2++[((8:Int),o.getD j default)]),⟨by simp only;omega,hnx.symm⟩,by (refine weak_fg ?_;push_cast [iO,tN]),by simp only;omega⟩
 have hj2:j=o.length:=by omega
 rw [hj2,List.take_length,hlx,hp] at hl2x
 have e3:=List.take_of_length_le (l:=l2.map opR) (i:=l2.length) (by simp)
 refine pwp_weak (weak_frz 1 (Nat.zero_le _)) ?_
 push_cast [iO,tN,e3]
 repeat' (first|((first|refine pC ?_|refine pQC ?_|refine pU ?_);push_cast [iO,tN])|(refine pif (fun h=>?_) (fun h=>?_)<;>first|exact pN h|push_cast [iO,tN]))
 (refine retK_of [] ?_;push_cast [iO,tN,hl2x])
def opE:List (Int × ByteArray) → List E
 | []=>(opR (0,⟨#[]⟩)).map D.e
 | x :: _=>(opR x).map D.e
attribute [push_cast] opE
set_option maxHeartbeats 4000000 in
theorem next_pureM (c:Cfg) (loaded W:List ByteArray) (hc:CfgOk2 c) (hl:loaded.length≤1000) (hW:W.length≤1000) :
  PCalls Try.prog 9 [.agg c.e,.c (.sl 1 (loaded.map strD)),.c (.sl 1 (W.map strD))] [] fun r os=>r = .two (.agg (opE (planL c.modules loaded W))) (.c (.v (.bool (decide (0 < (planL c.modules loaded W).length)))))∧os=[]:=by
 have hpl:=plan_pureM c loaded W hc hl hW
 obtain ⟨p,hp⟩:∃ p,planL c.modules loaded W=p:=⟨_,rfl⟩
 rw [hp] at hpl ⊢
 refine pcalls_of Try.func9 rfl (by simp [Try.ntmps9]) ?_
 rw [Try.ntmps9,Try.results9]
 push_cast [iO,tN]
 cases p with
 | nil =>
  repeat' (first |  ((refine plc [] (hpl) ?_ ?_;push_cast [iO,tN];rintro r os ⟨rfl,rfl⟩;push_cast [iO,tN]))  | ((first|refine pG ?_|refine pQ ?_|refine pU ?_);push_cast [iO,tN])|(refine pif (fun h=>?_) (fun h=>?_)<;>first|exact pN h|push_cast [iO,tN]))
  (refine retK_of [] ?_;push_cast [iO,tN])
 | cons x p =>
  repeat' (first |  ((refine plc [] (hpl) ?_ ?_;push_cast [iO,tN];rintro r os ⟨rfl,rfl⟩;push_cast [iO,tN]))  | ((first|refine pG ?_|refine pQ ?_|refine pU ?_);push_cast [iO,tN])|(refine pif (fun h=>?_) (fun h=>?_)<;>first|exact pN h|push_cast [iO,tN]))
  (refine retK_of [] ?_;push_cast [iO,tN])
  exact (decide_eq_true (Nat.succ_pos _)).symm
set_option maxHeartbeats 8000000 in
theorem sameops_pure (a b:List (Int × ByteArray)) (ha:a.length≤1000000000) (hb:b.length≤1000000000) :
  PCalls Try.prog 10 [.c (.sl 14 (a.map opR)),.c (.sl 14 (b.map opR))] [] fun r os=>r = .c (.v (.bool (decide (a=b))))∧os=[]:=by
 refine pcalls_of Try.func10 rfl (by simp [Try.ntmps10]) ?_
 rw [Try.ntmps10,Try.results10]
 push_cast [iO,tN]
 by_cases hl:a.length=b.length
 case neg =>
  have hR:decide (a=b)=false:=decide_eq_false fun e=>hl (by rw [e])
  have hl':¬ (a.length:Int)=(b.length:Int):=by omega
  repeat' (first|((first|refine pG ?_|refine pQ ?_|refine pU ?_);push_cast [iO,tN,hl'])|(refine pif (fun h=>?_) (fun h=>?_)<;>first|exact pN h|push_cast [iO,tN,hl']))
  (refine retK_of [] ?_;push_cast [iO,tN,hR])
 have cB:CutB 6 []:=trivial
 repeat' (first|((first|refine pC ?_|refine pQC ?_|refine pU ?_);push_cast [iO,tN,hl])|(refine pif (fun h=>?_) (fun h=>?_)<;>first|exact pN h|push_cast [iO,tN,hl]))
 (apply pwp_loop3 (α:=Nat) 6 [] (fun k=>[(5,.c (.v (.int .i64 k)))]) (fun k=>[]) (fun k=>k≤a.length∧a.take k=b.take k) (fun k=>a.length - k) (0);(focus ((try push_cast [iO,tN]);rfl));(focus exact ⟨by omega,rfl⟩);(focus ((refine weak_fg ?_;try push_cast [iO,tN]))))
 rintro k ⟨hk,hpre⟩
 push_cast [iO,tN]
 by_cases hlt:k < a.length
 ·have hlt':k < b.length:=by omega
  have e1:=getD_lt a hlt
  have e2:=getD_lt b hlt'
  by_cases h1:(a.getD k default).1=(b.getD k default).1
  ·by_cases h2:(a.getD k default).2=(b.getD k default).2
   ·have he:a.take (k+1)=b.take (k+1):=by
     rw [List.take_succ_eq_append_getElem hlt,List.take_succ_eq_append_getElem hlt',hpre,← e1,← e2,Prod.ext h1 h2]
    repeat' (first|((first|refine pC ?_|refine pQC ?_|refine pU ?_);push_cast [iO,tN,h1,h2,ne_eq,not_true_eq_false])|(refine pif (fun h=>?_) (fun h=>?_)<;>first|exact pN h|push_cast [iO,tN,h1,h2,ne_eq,not_true_eq_false]))
    exact ⟨k+1,⟨by omega,he⟩,by (refine weak_fg ?_;push_cast [iO,tN]),by omega⟩
   ·have hR:decide (a=b)=false:=decide_eq_false fun e=>h2 (by rw [e])
    repeat' (first|((first|refine pC ?_|refine pQC ?_|refine pU ?_);push_cast [iO,tN,h1,h2,ne_eq,not_true_eq_false,not_false_eq_true])|(refine pif (fun h=>?_) (fun h=>?_)<;>first|exact pN h|push_cast [iO,tN,h1,h2,ne_eq,not_true_eq_false,not_false_eq_true]))
    (refine retK_of [] ?_;push_cast [iO,tN,hR])
  ·have hR:decide (a=b)=false:=decide_eq_false fun e=>h1 (by rw [e])
   repeat' (first|((first|refine pC ?_|refine pQC ?_|refine pU ?_);push_cast [iO,tN,h1,ne_eq,not_false_eq_true])|(refine pif (fun h=>?_) (fun h=>?_)<;>first|exact pN h|push_cast [iO,tN,h1,ne_eq,not_false_eq_true]))
   (refine retK_of [] ?_;push_cast [iO,tN,hR])
 ·have hk2:k=a.length:=by omega
  rw [hk2,List.take_length,hl,List.take_length] at hpre
  have hR:decide (a=b)=true:=decide_eq_true hpre
  repeat' (first|((first|refine pC ?_|refine pQC ?_|refine pU ?_);push_cast [iO,tN])|(refine pif (fun h=>?_) (fun h=>?_)<;>first|exact pN h|push_cast [iO,tN]))
  (refine retK_of [] ?_;push_cast [iO,tN,hR])
end Go.Proofs.Ytmjffgienmcabaa
namespace Go.Proofs.Ytmjffgienmcabaa
open Go.RowKit
open IntWalk renaming iteOmega → iO, toNatUp → tN
set_option linter.unusedVariables false
set_option linter.unusedSimpArgs false
instance decMem (x:ByteArray) (l:List ByteArray):Decidable (x ∈ l):=decidable_of_iff (inM x l=true) inM_iff
def kNic:ByteArray:=⟨#[110,105,99]⟩
def kCore:ByteArray:=⟨#[99,111,114,101]⟩
def kHid:ByteArray:=⟨#[104,105,100]⟩
theorem reach_sub {M:List Mod} {n:ByteArray} (S:List ByteArray) (h0:∀ x ∈ needsOf M n,x ∈ S) (h1:∀ y ∈ S,∀ x ∈ needsOf M y,x ∈ S):∀ {x:ByteArray},Reach M n x → x ∈ S:=by
 intro x h
 induction h with
 | one h=>exact h0 _ h
 | more _ h ih=>exact h1 _ ih _ h
end Go.Proofs.Ytmjffgienmcabaa
