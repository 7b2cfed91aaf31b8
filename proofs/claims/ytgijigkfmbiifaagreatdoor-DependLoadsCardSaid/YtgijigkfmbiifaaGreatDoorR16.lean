/- What the program computes, and the plain laws of it, part 16. -/
import Derived.Test.YtgijigkfmbiifaaGreatDoorR15
namespace Go.Proofs.YtgijigkfmbiifaaGreatDoor
attribute [local irreducible] PL QL PWPr PCalls Weak RetK Kontr PA
open Go.RowKit
open IntWalk renaming iteOmega → iO, toNatUp → tN
set_option linter.unusedVariables false
set_option linter.unusedSimpArgs false
set_option maxRecDepth 20000
def asc (l:List ByteArray):Prop:=l.Pairwise fun a b=>bless a b=true
theorem asc_ext:∀ {l m:List ByteArray},asc l → asc m → (∀ x,x ∈ l ↔ x ∈ m) → l=m
 | [],[],_,_,_=>rfl
 | [],b :: m,_,_,h=>by have:=(h b).2 (by simp);simp at this
 | a :: l,[],_,_,h=>by have:=(h a).1 (by simp);simp at this
 | a :: l,b :: m,hl,hm,h=>by
  obtain ⟨l1,l2⟩:=List.pairwise_cons.1 hl
  obtain ⟨m1,m2⟩:=List.pairwise_cons.1 hm
  have hab:a=b:=by
   rcases List.mem_cons.1 ((h a).1 (by simp)) with e|e
   ·exact e
   ·rcases List.mem_cons.1 ((h b).2 (by simp)) with e'|e'
    ·exact e'.symm
    ·have h1:=m1 a e
     have h2:=l1 b e'
     rw [bless_asymm h1] at h2
     cases h2
  subst hab
  congr 1
  refine asc_ext l2 m2 fun x=>⟨fun hx=>?_,fun hx=>?_⟩
  ·rcases List.mem_cons.1 ((h x).1 (by simp [hx])) with e|e
   ·subst e;have:=l1 _ hx;rw [bless_irrefl] at this;cases this
   ·exact e
  ·rcases List.mem_cons.1 ((h x).2 (by simp [hx])) with e|e
   ·subst e;have:=m1 _ hx;rw [bless_irrefl] at this;cases this
   ·exact e
theorem asc_nodup {l:List ByteArray} (h:asc l):l.Nodup:=h.imp fun h=>bless_ne h
def unB (x:List UInt8):ByteArray:=⟨x.toArray⟩
theorem unB_list (b:ByteArray):unB b.data.toList=b:=by unfold unB;rfl
theorem list_unB (x:List UInt8):(unB x).data.toList=x:=by unfold unB;rfl
theorem sorted_asc (ss:List (List UInt8)) (h:ss.Nodup):asc ((ss.mergeSort fun x y=>decide (x≤y)).map unB):=by
 have h1:(ss.mergeSort fun x y=>decide (x≤y)).Pairwise fun x y=>decide (x≤y)=true :=
  List.pairwise_mergeSort (fun a b c h1 h2=>by simp only [decide_eq_true_eq] at *;exact List.le_trans h1 h2) (fun a b=>by simp only [Bool.or_eq_true,decide_eq_true_eq];exact List.le_total a b) ss
 have h2:(ss.mergeSort fun x y=>decide (x≤y)).Nodup:=(List.mergeSort_perm ss _).nodup_iff.2 h
 rw [asc,List.pairwise_map]
 refine (h1.and h2).imp ?_
 rintro a b ⟨h3,h4⟩
 rw [bless_lt,ByteArray.toList_eq,ByteArray.toList_eq,list_unB,list_unB]
 rw [decide_eq_true_eq] at h3
 rcases Decidable.em (a < b) with h5|h5
 ·exact h5
 ·exact absurd (List.le_antisymm h3 (List.not_lt.1 h5)) h4
theorem sorted_mem (ss:List (List UInt8)) (x:ByteArray):x ∈ (ss.mergeSort fun x y=>decide (x≤y)).map unB ↔ x.data.toList ∈ ss:=by
 rw [List.mem_map]
 constructor
 ·rintro ⟨y,h,rfl⟩;rw [list_unB];exact (List.mergeSort_perm ss _).mem_iff.1 h
 ·intro h;exact ⟨_,(List.mergeSort_perm ss _).mem_iff.2 h,unB_list x⟩
open Go.RowKit Go.Maps Go.Sort Go.Shelf in
theorem sortedKeys_calls {H:Type} (Bm b nn:Nat) (D0:DataW H) (R:Value → Option (DataW H × List MemPlace)) (W:World) (hBm:Bm < W.heap.size) (hm:W.cell? ⟨Bm,0,none⟩=some (.map (some b))) (hown:W.ownsMap Tryz.prog 9 R b nn D0) (hmax:Maps.size D0≤maxLen) (hbytes:Maps.size D0 * 16≤140737488355328) :
  Calls Tryz.prog 21 #[.func (.func 48) #[] #[.pointer (some ⟨Bm,0,none⟩)]] W fun e w'=>∃ (v:Value) (ss:List (List UInt8)),e = .returned v∧ss.Perm (strKeys D0) ∧
   w'.ownsRow W.heap.size 9 1 v ss.length ((ss.mergeSort (fun x y=>decide (x≤y))).map encStr)∧(v = .slice none 0 0 ↔ ss=[])∧Below W.heap.size W w':=by
 have hseq:SeqGives Fence.wide 2 Tryz.prog 48 #[.pointer (some ⟨Bm,0,none⟩)] encStr (fun ss=>ss.Perm (strKeys D0)) (Maps.size D0) W :=
  AnyZ.keys_gives (ρ:=keys22_ren) { keys22 with } Fence.wide _ trivial rfl (by omega) Bm b nn D0 W hBm hm hown
 exact callsIn_wide.1 (AnyZ.sorted_in sorted21 Fence.wide 5 trivial trivial trivial trivial rfl (by omega) (sorts21 _) (enters_of Tryz.func25 (by kernel_rfl) rfl) 48 #[.pointer (some ⟨Bm,0,none⟩)] trivial (enters_of Tryz.func48 (by kernel_rfl) rfl) _ _ hmax hbytes _ hseq)
def R0:Value → Option (DataW Unit × List MemPlace):=fun _=>some (.nil,[])
theorem keys_rows {w:World} {I:Nat → Prop} {ag:Bool} (hku:Tryz.prog.underlying 9=some .string):∀ (l:List ByteArray) (ms:List MapEntry),(∀ x ∈ l,x.size≤maxLen) → All2 (fun e m=>m.key=MK.v e.1∧RV w I ag e.2 m.val) (setE l) ms →
  (∀ x ∈ ms,∃ y,WideElems.rd Tryz.prog 9 R0 x=some y)∧(ms.map (WideElems.rg Tryz.prog 9 R0)).map (fun p=>strOf p.1)=l.map fun x=>x.data.toList
 | [],ms,_,h=>by
  have:ms=[]:=All2.nil_l.1 h
  subst this
  simp
 | a :: l,ms,hs,h=>by
  obtain ⟨m,ms',rfl,⟨h1,h2⟩,h3⟩:=All2.cons_l.1 h
  obtain ⟨i1,i2⟩:=keys_rows hku l ms' (fun x hx=>hs x (by simp [hx])) h3
  have hkey:keyOf Tryz.prog 9 m.key=some (.string a.data.toList):=by
   rw [h1]
   simp [keyOf,hku,mapKey,MK.v,hs a (by simp)]
  have hrd:WideElems.rd Tryz.prog 9 R0 m=some (.string a.data.toList,.nil):=by simp [WideElems.rd,hkey,R0]
  refine ⟨fun x hx=>?_,?_⟩
  ·rcases List.mem_cons.1 hx with rfl|hx
   ·exact ⟨_,hrd⟩
   ·exact i1 x hx
  ·simp only [List.map_cons,WideElems.rg_of hrd,i2]
   rfl
theorem sortedD_pure (l:List ByteArray) (hnd:l.Nodup) (hsz:∀ x ∈ l,x.size≤maxLen) (hl:l.length≤1000000) :
  PCalls Tryz.prog 21 [.c (.fn (.func 48) [] [1])] [.map none false (setE l),.box 56 [.mp 0]] fun r os=>∃ m,(asc m∧m.length=l.length∧∀ x,x ∈ m ↔ x ∈ l)∧r = .c (.own 2 m.length)∧os=[.map none false (setE l),.box 56 [.mp 0],.arr 9 1 (m.map strD)]:=by
 unfold PCalls
 intro Γ w xs hm hx
 obtain ⟨y,m',rfl,h1,h2⟩:=All2.cons_l.1 hx
 rw [All2.nil_l] at h2
 subst h2
 obtain ⟨fs,rfl,hfs,hks⟩:=h1
 rw [All2.nil_l] at hfs
 have hfs:=hfs rfl
 subst hfs
 simp only [isBnd,fnV,Bool.false_eq_true]
 have hn:=hm.n
 simp only [List.length_cons,List.length_nil] at hn
 obtain ⟨c0,ms,ck,hb,hM⟩:=hm.ob 0 _ rfl
 obtain ⟨c1,bs,hbox,hbs,hroom⟩:=hm.ob 1 _ rfl
 obtain ⟨v0,m0,rfl,⟨_,rfl⟩,h3⟩:=All2.cons_l.1 hbs
 rw [All2.nil_l] at h3
 subst h3
 have hku:Tryz.prog.underlying 9=some .string:=by kernel_rfl
 obtain ⟨i1,i2⟩:=keys_rows hku l ms.toList hsz hM.rows
 have hlen:ms.size=l.length:=by rw [← Array.length_toList,← hM.rows.length];simp [setE]
 have hown:w.ownsMap Tryz.prog 9 R0 (Γ.β 0) ms.size (.map ((ms.toList.map (WideElems.rg Tryz.prog 9 R0)).foldr DataW.insert [])):=by
  refine ⟨ms,ck,hb,⟨by rw [hlen];unfold maxLen;omega,(MapKept.stamped_iff _ _).2 ⟨fun x hx=>hM.clock _ (List.mem_map.2 ⟨x,hx,rfl⟩),hM.born.imp fun h=>Nat.ne_of_lt h,?_⟩,i1⟩,Nat.le_refl _,rfl⟩
  have hk:ms.toList.map MapEntry.key=l.map Value.string:=by
   have:∀ (l:List ByteArray) (ms:List MapEntry),All2 (fun e m=>m.key=MK.v e.1∧RV w Γ.I false e.2 m.val) (setE l) ms → ms.map MapEntry.key=l.map Value.string:=by
    intro l
    induction l with
    | nil=>intro ms h;rw [show setE []=[] from rfl,All2.nil_l] at h;subst h;rfl
    | cons a l ih =>
     intro ms h
     obtain ⟨m,ms',rfl,⟨h1,_⟩,h3⟩:=All2.cons_l.1 h
     simp only [List.map_cons,ih _ h3,h1,MK.v]
   exact this l _ hM.rows
  have:(ms.toList.map MapEntry.key).Pairwise (· ≠ ·):=by
   rw [hk,List.pairwise_map]
   exact hnd.imp fun h e=>h (by injection e)
  exact List.pairwise_map.1 this
 have hsize:Maps.size (.map ((ms.toList.map (WideElems.rg Tryz.prog 9 R0)).foldr DataW.insert []))=l.length:=by
  simp only [Maps.size]
  rw [(WideShapes.sorted_perm _).length_eq,List.length_map,Array.length_toList,hlen]
 refine (sortedKeys_calls (Γ.β 1) (Γ.β 0) ms.size _ R0 w hbox.lt (by rw [hbox.cell];rfl) hown (by rw [hsize];unfold maxLen;omega) (by rw [hsize];omega)).mono ?_
 rintro e w' ⟨v,ss,rfl,hperm,hrow,hnil,hB⟩
 have hperm2:ss.Perm (l.map fun x=>x.data.toList):=by
  refine hperm.trans ?_
  simp only [strKeys]
  rw [← i2]
  exact (WideShapes.sorted_perm _).map _
 have hinj:(l.map fun x=>x.data.toList).Nodup:=by
  rw [List.Nodup,List.pairwise_map]
  exact hnd.imp fun {a b} h e=>h (by rw [← unB_list a,e,unB_list])
 have hssn:ss.Nodup:=hperm2.nodup_iff.2 hinj
 have hlm:((ss.mergeSort fun x y=>decide (x≤y)).map unB).length=l.length:=by
  rw [List.length_map,(List.mergeSort_perm ss _).length_eq,hperm2.length_eq,List.length_map]
 have hE:Ext No w w':=⟨hB.os,hB.tape,hB.output,hB.size,fun k hk _=>hB.block k hk⟩
 have hS:=Same.of_ext hE
 have hslen:ss.length=l.length:=by rw [hperm2.length_eq,List.length_map]
 have hro:∀ (Γ':G) (k:Nat),All2 (RD w' Γ'.I) (((ss.mergeSort fun x y=>decide (x≤y)).map unB).map strD).flatten ((ss.mergeSort fun x y=>decide (x≤y)).map Go.Proofs.encStr):=by
  intro Γ' k
  generalize (ss.mergeSort fun x y=>decide (x≤y))=q
  induction q with
  | nil=>trivial
  | cons a q ih=>exact ⟨by rw [RD];exact ⟨rfl,rfl⟩,ih⟩
 have fin:∀ b c,v.oneCell'=true → RO w' (Γ.push b c) Γ.n (.arr 9 1 (((ss.mergeSort fun x y=>decide (x≤y)).map unB).map strD)) → (0 < c → w.heap.size≤b) → OwnRep (Γ.push b c) Γ.n ((ss.mergeSort fun x y=>decide (x≤y)).map unB).length v →
   ∃ r os' Γ' y,Ending.returned v = .returned y∧(∃ m,(asc m∧m.length=l.length∧∀ x,x ∈ m ↔ x ∈ l)∧r = .c (.own 2 m.length)∧os'=[.map none false (setE l),.box 56 [.mp 0],.arr 9 1 (m.map strD)])∧RP w' Γ' r y∧2≤os'.length∧MemOk Γ' os' w'∧Grow 2 Γ w Γ' w':=by
  intro b c _ hro' hbc hrep
  refine ⟨_,_,Γ.push b c,v,rfl,⟨_,⟨sorted_asc ss hssn,hlm,fun x=>?_⟩,rfl,rfl⟩,⟨by simp [G.push,hn],by rw [hn] at hrep;exact hrep⟩,by simp,hm.push hS _ b c hro' hbc,grow_push hm hE b c hbc (by omega)⟩
  rw [sorted_mem,hperm2.mem_iff,List.mem_map]
  exact ⟨fun ⟨z,h,e⟩=>by rw [← unB_list x,← e,unB_list];exact h,fun h=>⟨x,h,rfl⟩⟩
 rcases Nat.eq_zero_or_pos ss.length with h0|h0
 ·have hs0:ss=[]:=List.eq_nil_of_length_eq_zero h0
  subst hs0
  have hv:=hnil.2 rfl
  subst hv
  refine fin 0 0 rfl ⟨by simp,by omega,fun _=>by simp,fun h=>absurd h (by simp [G.push,upd_same])⟩ (fun h=>absurd h (by omega)) (.inl ⟨by simp [G.push,upd_same],⟨none,rfl⟩,by simp⟩)
 ·obtain ⟨b,c,rfl,h4,h5,h6,h7,h8,h9⟩:=arr_of_own (k:=Γ.n) (Γ:=Γ) (rows:=((ss.mergeSort fun x y=>decide (x≤y)).map unB).map strD) hrow h0 (by omega) (fun r hr=>by obtain ⟨z,_,rfl⟩:=List.mem_map.1 hr;rfl) (by rw [List.length_map,hlm,hslen])
  refine fin b c rfl (h9 (Γ.push b c) (by simp [G.push,upd_same]) (by simp [G.push,upd_same]) (hro _ 0)) (fun _=>h6) (.inr ⟨by simp [G.push,upd_same,h4],by simp [G.push,upd_same,hlm,hslen],by simp [G.push,upd_same];exact h5⟩)
theorem keysOf_pure (es:List (MK × List D)) :
  PCalls Tryz.prog 22 [.c (.mp 0)] [.map none false es] fun r os=>r = .c (.fn (.func 48) [] [1])∧os=[.map none false es,.box 56 [.mp 0]]:=by
 refine pcalls_of Tryz.func22 rfl (by simp [Tryz.ntmps22]) ?_
 rw [Tryz.ntmps22,Tryz.results22]
 push_cast [iO,tN]
 repeat' (first|((first|refine pG ?_|refine pQ ?_|refine pU ?_);push_cast [iO,tN])|(refine pif (fun h=>?_) (fun h=>?_)<;>first|exact pN h|push_cast [iO,tN]))
 (refine retK_of [0,1] ?_;push_cast [iO,tN])
set_option maxRecDepth 20000
def modsE (l:List Mod):List (MK × List D):=l.map fun m=>(.s m.name,m.d)
theorem mget_mods (n:ByteArray):∀ l:List Mod,mget (modsE l) (.s n)=(modOf l n).map Mod.d
 | []=>rfl
 | a :: l=>by
  have ih:=mget_mods n l
  simp only [modsE,List.map_cons,mget,MK.s.injEq,modOf,List.find?_cons] at ih ⊢
  by_cases h:a.name=n
  ·simp [h]
  ·simp only [h,if_false,decide_false]
   exact ih
theorem mput_mods (m:Mod):∀ l:List Mod,(∀ x ∈ l,x.name≠m.name) → mput (modsE l) (.s m.name) m.d=modsE (l++[m])
 | [],_=>rfl
 | a :: l,h=>by
  have ih:=mput_mods m l (fun x hx=>h x (by simp [hx]))
  have h1:=h a (by simp)
  simp only [modsE,List.map_cons,mput,MK.s.injEq,h1,if_false,List.cons_append] at ih ⊢
  rw [ih]
def Cfg.e (c:Cfg):List E:=c.d.map D.e
attribute [push_cast] Cfg.e
theorem modules_pure (c:Cfg) (hnd:(c.modules.map Mod.name).Nodup) (hl:c.modules.length≤1000) :
  PCalls Tryz.prog 17 [.agg c.e] [] fun r os=>r = .c (.mp 0)∧os=[.map none true (modsE c.modules)]:=by
 refine pcalls_of Tryz.func17 rfl (by simp [Tryz.ntmps17]) ?_
 rw [Tryz.ntmps17,Tryz.results17]
 push_cast [iO,tN]
 repeat' (first|((first|refine pG ?_|refine pQ ?_|refine pU ?_);push_cast [iO,tN])|(refine pif (fun h=>?_) (fun h=>?_)<;>first|exact pN h|push_cast [iO,tN]))
 refine pwp_loop2 (α:=Nat) (fun k=>k≤c.modules.length) (fun k=>⟨[(10,.c (.v (.int .i64 k))),(9,.c (.v (.int .i64 c.modules.length))),(8,.c (.sl 6 (c.modules.map Mod.d))),(3,.c (.mp 1))],[.box 30 c.e,.map none true (modsE (c.modules.take k))]⟩) (fun k=>c.modules.length - k) 0 (by omega) (by (refine weak_fg ?_;push_cast [iO,tN]);try rfl) ?_
 intro k hk
 by_cases hlt:k < c.modules.length
 ·have e1:=getD_lt c.modules hlt
  have hput:mput (modsE (c.modules.take k)) (.s (c.modules.getD k default).name) [.v (.string (c.modules.getD k default).name),.sl 1 ((c.modules.getD k default).aliases.map strD),.sl 1 ((c.modules.getD k default).needs.map strD),.sl 1 ((c.modules.getD k default).pre.map strD),.sl 1 ((c.modules.getD k default).post.map strD),.v (.bool (c.modules.getD k default).fails)]=modsE (c.modules.take (k+1)):=by
   rw [e1]
   refine (mput_mods c.modules[k] (c.modules.take k) ?_).trans ?_
   ·intro x hx he
    rw [List.mem_iff_getElem?] at hx
    obtain ⟨i,hi⟩:=hx
    rw [List.getElem?_take] at hi
    split at hi
    ·rename_i hik
     have:=(List.getElem?_inj (l:=c.modules.map Mod.name) (i:=i) (j:=k) (by simp;omega) hnd).1 (by rw [List.getElem?_map,List.getElem?_map,hi,List.getElem?_eq_getElem hlt];simp [he])
     omega
    ·cases hi
   ·rw [← List.take_succ_eq_append_getElem hlt]
  repeat' (first|((first|refine pG ?_|refine pQ ?_|refine pU ?_);push_cast [iO,tN,hput])|(refine pif (fun h=>?_) (fun h=>?_)<;>first|exact pN h|push_cast [iO,tN,hput]))
  exact ⟨k+1,by omega,by (refine weak_fg ?_;push_cast [iO,tN]),by omega⟩
 ·repeat' (first|((first|refine pG ?_|refine pQ ?_|refine pU ?_);push_cast [iO,tN])|(refine pif (fun h=>?_) (fun h=>?_)<;>first|exact pN h|push_cast [iO,tN]))
  (refine retK_of [1] ?_;push_cast [iO,tN])
  rw [List.take_of_length_le (by omega)]
set_option maxRecDepth 20000
def needsOf (M:List Mod) (n:ByteArray):List ByteArray:=((modOf M n).getD noMod).needs
inductive Reach (M:List Mod) (n:ByteArray):ByteArray → Prop
 | one {x:ByteArray}:x ∈ needsOf M n → Reach M n x
 | more {y x:ByteArray}:Reach M n y → x ∈ needsOf M y → Reach M n x
theorem Reach.trans {M:List Mod} {a b c:ByteArray} (h:Reach M a b) (h':Reach M b c):Reach M a c:=by
 induction h' with
 | one hx=>exact .more h hx
 | more _ hx ih=>exact .more ih hx
theorem nodup_len {α:Type} [DecidableEq α]:∀ (l m:List α),l.Nodup → (∀ x ∈ l,x ∈ m) → l.length≤m.length
 | [],m,_,_=>by simp
 | a :: l,m,h,hs=>by
  obtain ⟨h1,h2⟩:=List.nodup_cons.1 h
  have ih:=nodup_len l (m.filter fun x=>decide (x≠a)) h2 (fun x hx=>by
   rw [List.mem_filter]
   refine ⟨hs x (by simp [hx]),?_⟩
   simp only [ne_eq,decide_eq_true_eq]
   rintro rfl
   exact h1 hx)
  have h3:(m.filter fun x=>decide (x≠a)).length < m.length:=by
   have hle:=List.length_filter_le (fun x=>decide (x≠a)) m
   rcases Nat.lt_or_ge (m.filter fun x=>decide (x≠a)).length m.length with h|h
   ·exact h
   ·have:=(List.length_filter_eq_length_iff (p:=fun x=>decide (x≠a)) (l:=m)).1 (by omega) a (hs a (by simp))
    simp at this
  simp only [List.length_cons]
  omega
def allNeeds (M:List Mod):List ByteArray:=M.flatMap Mod.needs
theorem needs_all {M:List Mod} {n x:ByteArray} (h:x ∈ needsOf M n):x ∈ allNeeds M:=by
 unfold needsOf at h
 cases hm:modOf M n with
 | none=>rw [hm] at h;simp [noMod] at h
 | some m =>
  rw [hm] at h
  unfold modOf at hm
  exact List.mem_flatMap.2 ⟨m,List.mem_of_find?_eq_some hm,h⟩
theorem reach_all {M:List Mod} {n x:ByteArray} (h:Reach M n x):x ∈ allNeeds M:=by
 cases h with
 | one h=>exact needs_all h
 | more _ h=>exact needs_all h
structure Small (M:List Mod):Prop where
 len:M.length≤100
 needs:∀ m ∈ M,m.needs.length≤100
 pre:∀ m ∈ M,m.pre.length≤100
 post:∀ m ∈ M,m.post.length≤100
 nodup:(M.map Mod.name).Nodup
 named:∀ m ∈ M,m.name≠⟨#[]⟩
theorem flat_len {α β:Type} (f:α → List β) (k:Nat):∀ l:List α,(∀ x ∈ l,(f x).length≤k) → (l.flatMap f).length≤l.length * k
 | [],_=>by simp
 | a :: l,h=>by
  have ih:=flat_len f k l (fun x hx=>h x (by simp [hx]))
  have:=h a (by simp)
  simp only [List.flatMap_cons,List.length_append,List.length_cons,Nat.add_mul]
  omega
theorem Small.all {M:List Mod} (h:Small M):(allNeeds M).length≤10000:=by
 have:=flat_len Mod.needs 100 M h.needs
 have:=h.len
 unfold allNeeds
 omega
theorem mod_mem {M:List Mod} {n:ByteArray} {m:Mod} (h:modOf M n=some m):m ∈ M∧m.name=n:=by
 unfold modOf at h
 exact ⟨List.mem_of_find?_eq_some h,by simpa using List.find?_some h⟩
theorem Small.needsOf {M:List Mod} (h:Small M) (n:ByteArray):(needsOf M n).length≤100:=by
 unfold Go.Proofs.YtgijigkfmbiifaaGreatDoor.needsOf
 cases hm:modOf M n with
 | none=>simp [noMod]
 | some m=>exact h.needs m (mod_mem hm).1
structure RInv (M:List Mod) (n:ByteArray) (seen st:List ByteArray):Prop where
 nd:seen.Nodup
 hs:∀ x ∈ seen,Reach M n x
 ht:∀ x ∈ st,Reach M n x
 h0:∀ x ∈ needsOf M n,x ∈ seen∨x ∈ st
 hn:∀ y ∈ seen,∀ x ∈ needsOf M y,x ∈ seen∨x ∈ st
 hl:st.length≤100 * (1+seen.length)
theorem RInv.seenLen {M:List Mod} {n:ByteArray} {seen st:List ByteArray} (h:RInv M n seen st):seen.length≤(allNeeds M).length :=
 nodup_len _ _ h.nd fun x hx=>reach_all (h.hs x hx)
theorem RInv.init {M:List Mod} {n:ByteArray} (hS:Small M):RInv M n [] (needsOf M n) :=
 ⟨by simp,by simp,fun x hx=>.one hx,fun x hx=>.inr hx,by simp,by have:=hS.needsOf n;simpa using this⟩
theorem RInv.old {M:List Mod} {n:ByteArray} {seen st:List ByteArray} {s:ByteArray} (h:RInv M n seen (st++[s])) (hs:s ∈ seen):RInv M n seen st :=
 ⟨h.nd,h.hs,fun x hx=>h.ht x (by simp [hx]),fun x hx=>by
  rcases h.h0 x hx with h1|h1
  ·exact .inl h1
  ·rcases List.mem_append.1 h1 with h1|h1
   ·exact .inr h1
   ·simp at h1;subst h1;exact .inl hs,fun y hy x hx=>by
  rcases h.hn y hy x hx with h1|h1
  ·exact .inl h1
  ·rcases List.mem_append.1 h1 with h1|h1
   ·exact .inr h1
   ·simp at h1;subst h1;exact .inl hs,by have:=h.hl;simp at this;omega⟩
theorem RInv.fresh {M:List Mod} {n:ByteArray} {seen st:List ByteArray} {s:ByteArray} (hS:Small M) (h:RInv M n seen (st++[s])) (hs:s ∉ seen):RInv M n (addS seen s) (st++needsOf M s):=by
 have hr:Reach M n s:=h.ht s (by simp)
 have mv:∀ x,x ∈ seen∨x ∈ st++[s] → x ∈ addS seen s∨x ∈ st++needsOf M s:=by
  intro x hx
  rcases hx with hx|hx
  ·exact .inl (mem_addS.2 (.inl hx))
  ·rcases List.mem_append.1 hx with hx|hx
   ·exact .inr (by simp [hx])
   ·simp at hx;exact .inl (mem_addS.2 (.inr hx))
 refine ⟨nodup_addS h.nd,fun x hx=>?_,fun x hx=>?_,fun x hx=>mv x (h.h0 x hx),fun y hy x hx=>?_,?_⟩
 ·rcases mem_addS.1 hx with hx|rfl
  ·exact h.hs x hx
  ·exact hr
 ·rcases List.mem_append.1 hx with hx|hx
  ·exact h.ht x (by simp [hx])
  ·exact .more hr hx
 ·rcases mem_addS.1 hy with hy|rfl
  ·exact mv x (h.hn y hy x hx)
  ·exact .inr (by simp [hx])
 ·have h1:=h.hl
  have h2:=hS.needsOf s
  have h3:(addS seen s).length=seen.length+1:=by unfold addS;rw [if_neg (by rw [inM_iff];exact hs)];simp
  rw [h3]
  simp at h1 ⊢
  omega
theorem RInv.done {M:List Mod} {n:ByteArray} {seen:List ByteArray} (h:RInv M n seen []) (x:ByteArray):x ∈ seen ↔ Reach M n x:=by
 refine ⟨h.hs x,fun hx=>?_⟩
 induction hx with
 | one hx=>simpa using h.h0 _ hx
 | more _ hx ih=>simpa using h.hn _ ih _ hx
def reachSt (M:List Mod) (n:ByteArray) (x:List ByteArray × List ByteArray):S:=⟨[(6,.c (.own 2 x.2.length)),(5,.c (.mp 1)),(0,.c (.mp 0)),(1,.c (.v (.string n)))],[.map none true (modsE M),.map none false (setE x.1),.arr 9 1 (x.2.map strD)]⟩
attribute [push_cast] reachSt
set_option maxHeartbeats 1000000 in
theorem reached_pure (M:List Mod) (n:ByteArray) (hS:Small M) :
  PCalls Tryz.prog 46 [.c (.mp 0),.c (.v (.string n))] [.map none true (modsE M)] fun r os=>∃ seen,(seen.Nodup∧∀ x,x ∈ seen ↔ Reach M n x)∧r = .c (.mp 1)∧os=[.map none true (modsE M),.map none false (setE seen)]:=by
 refine pcalls_of Tryz.func46 rfl (by simp [Tryz.ntmps46]) ?_
 rw [Tryz.ntmps46,Tryz.results46]
 push_cast [iO,tN]
 have hall:=hS.all
 have hlen:=hS.needsOf n
 have hi:=RInv.init (n:=n) hS
 cases hm:modOf M n with
 | none =>
  have hn:needsOf M n=[]:=by simp [needsOf,hm,noMod]
  rw [hn] at hlen hi
  repeat' (first|(refine plc [] (clone_pure [] (by simp)) ?_ ?_;push_cast [iO,tN,mget_mods,hm];rintro r os ⟨rfl,rfl⟩;push_cast [iO,tN,mget_mods,hm])|((first|refine pG ?_|refine pQ ?_|refine pU ?_);push_cast [iO,tN,mget_mods,hm])|(refine pif (fun h=>?_) (fun h=>?_)<;>first|exact pN h|push_cast [iO,tN,mget_mods,hm]))
  refine pwp_loop2 (α:=List ByteArray × List ByteArray) (fun x=>RInv M n x.1 x.2) (reachSt M n) (fun x=>(10000 - x.1.length) * 200+x.2.length) ([],[]) hi (by (refine weak_fg ?_;push_cast [iO,tN])) ?_
  rintro ⟨seen,st⟩ hI
  have hsl:=hI.seenLen
  simp only at hI hsl
  rcases List.eq_nil_or_concat st with h0|⟨st',s,h0⟩
  ·subst h0
   repeat' (first|((first|refine pG ?_|refine pQ ?_|refine pU ?_);push_cast [iO,tN])|(refine pif (fun h=>?_) (fun h=>?_)<;>first|exact pN h|push_cast [iO,tN]))
   (refine retK_of [0,1] ?_;push_cast [iO,tN])
   exact ⟨_,_,leP_refl _,leOs_refl _,seen,⟨hI.nd,hI.done⟩,rfl,rfl⟩
  ·rw [List.concat_eq_append] at h0
   subst h0
   have e1:=getD_snoc (st'.map strD) (strD s) []
   have e2:=List.take_left' (l₁:=st'.map strD) (l₂:=[strD s]) (i:=st'.length) (by simp)
   simp only [List.length_map,strD] at e1 e2
   have hl:=hI.hl
   simp only [List.length_append,List.length_cons,List.length_nil] at hl
   have hns:=hS.needsOf s
   cases hs:inM s seen
   ·have hf:=hI.fresh hS (inM_false.1 hs)
    have hfl:=hf.seenLen
    have ha:(addS seen s).length=seen.length+1:=by unfold addS;rw [if_neg (by rw [hs];simp)];simp
    cases hk:modOf M s with
    | none =>
     have hn2:needsOf M s=[]:=by simp [needsOf,hk,noMod]
     rw [hn2,List.append_nil] at hf
     repeat' (first|((first|refine pG ?_|refine pQ ?_|refine pU ?_);push_cast [iO,tN,mget_mods,hk,hs,e1,e2])|(refine pif (fun h=>?_) (fun h=>?_)<;>first|exact pN h|push_cast [iO,tN,mget_mods,hk,hs,e1,e2]))
     exact ⟨(addS seen s,st'),hf,by (refine weak_fg ?_;push_cast [iO,tN]);try rfl,by simp only [List.length_append,List.length_cons,List.length_nil];omega⟩
    | some m' =>
     have hn2:needsOf M s=m'.needs:=by simp [needsOf,hk]
     rw [hn2] at hf hns
     repeat' (first|((first|refine pG ?_|refine pQ ?_|refine pU ?_);push_cast [iO,tN,mget_mods,hk,hs,e1,e2])|(refine pif (fun h=>?_) (fun h=>?_)<;>first|exact pN h|push_cast [iO,tN,mget_mods,hk,hs,e1,e2]))
     exact ⟨(addS seen s,st'++m'.needs),hf,by (refine weak_fg ?_;push_cast [iO,tN]),by simp only [List.length_append,List.length_cons,List.length_nil];omega⟩
   ·have hf:=hI.old (inM_iff.1 hs)
    repeat' (first|((first|refine pG ?_|refine pQ ?_|refine pU ?_);push_cast [iO,tN,mget_mods,hs,e1,e2])|(refine pif (fun h=>?_) (fun h=>?_)<;>first|exact pN h|push_cast [iO,tN,mget_mods,hs,e1,e2]))
    refine ⟨(seen,st'),hf,Weak.trans (weak_trim 2 st'.length rfl) (by (refine weak_fg ?_;push_cast [iO,tN]);exact e2),by simp⟩
 | some m =>
  have hn:needsOf M n=m.needs:=by simp [needsOf,hm]
  rw [hn] at hlen hi
  repeat' (first|(refine plc [] (clone_pure m.needs (by omega)) ?_ ?_;push_cast [iO,tN,mget_mods,hm];rintro r os ⟨rfl,rfl⟩;push_cast [iO,tN,mget_mods,hm])|((first|refine pG ?_|refine pQ ?_|refine pU ?_);push_cast [iO,tN,mget_mods,hm])|(refine pif (fun h=>?_) (fun h=>?_)<;>first|exact pN h|push_cast [iO,tN,mget_mods,hm]))
  refine pwp_loop2 (α:=List ByteArray × List ByteArray) (fun x=>RInv M n x.1 x.2) (reachSt M n) (fun x=>(10000 - x.1.length) * 200+x.2.length) ([],m.needs) hi (by (refine weak_fg ?_;push_cast [iO,tN])) ?_
  rintro ⟨seen,st⟩ hI
  have hsl:=hI.seenLen
  simp only at hI hsl
  rcases List.eq_nil_or_concat st with h0|⟨st',s,h0⟩
  ·subst h0
   repeat' (first|((first|refine pG ?_|refine pQ ?_|refine pU ?_);push_cast [iO,tN])|(refine pif (fun h=>?_) (fun h=>?_)<;>first|exact pN h|push_cast [iO,tN]))
   (refine retK_of [0,1] ?_;push_cast [iO,tN])
   exact ⟨_,_,leP_refl _,leOs_refl _,seen,⟨hI.nd,hI.done⟩,rfl,rfl⟩
  ·rw [List.concat_eq_append] at h0
   subst h0
   have e1:=getD_snoc (st'.map strD) (strD s) []
   have e2:=List.take_left' (l₁:=st'.map strD) (l₂:=[strD s]) (i:=st'.length) (by simp)
   simp only [List.length_map,strD] at e1 e2
   have hl:=hI.hl
   simp only [List.length_append,List.length_cons,List.length_nil] at hl
   have hns:=hS.needsOf s
   cases hs:inM s seen
   ·have hf:=hI.fresh hS (inM_false.1 hs)
    have hfl:=hf.seenLen
    have ha:(addS seen s).length=seen.length+1:=by unfold addS;rw [if_neg (by rw [hs];simp)];simp
    cases hk:modOf M s with
    | none =>
     have hn2:needsOf M s=[]:=by simp [needsOf,hk,noMod]
     rw [hn2,List.append_nil] at hf
     repeat' (first|((first|refine pG ?_|refine pQ ?_|refine pU ?_);push_cast [iO,tN,mget_mods,hk,hs,e1,e2])|(refine pif (fun h=>?_) (fun h=>?_)<;>first|exact pN h|push_cast [iO,tN,mget_mods,hk,hs,e1,e2]))
     exact ⟨(addS seen s,st'),hf,by (refine weak_fg ?_;push_cast [iO,tN]);try rfl,by simp only [List.length_append,List.length_cons,List.length_nil];omega⟩
    | some m' =>
     have hn2:needsOf M s=m'.needs:=by simp [needsOf,hk]
     rw [hn2] at hf hns
     repeat' (first|((first|refine pG ?_|refine pQ ?_|refine pU ?_);push_cast [iO,tN,mget_mods,hk,hs,e1,e2])|(refine pif (fun h=>?_) (fun h=>?_)<;>first|exact pN h|push_cast [iO,tN,mget_mods,hk,hs,e1,e2]))
     exact ⟨(addS seen s,st'++m'.needs),hf,by (refine weak_fg ?_;push_cast [iO,tN]),by simp only [List.length_append,List.length_cons,List.length_nil];omega⟩
   ·have hf:=hI.old (inM_iff.1 hs)
    repeat' (first|((first|refine pG ?_|refine pQ ?_|refine pU ?_);push_cast [iO,tN,mget_mods,hs,e1,e2])|(refine pif (fun h=>?_) (fun h=>?_)<;>first|exact pN h|push_cast [iO,tN,mget_mods,hs,e1,e2]))
    refine ⟨(seen,st'),hf,Weak.trans (weak_trim 2 st'.length rfl) (by (refine weak_fg ?_;push_cast [iO,tN]);exact e2),by simp⟩
end Go.Proofs.YtgijigkfmbiifaaGreatDoor
namespace Go.Proofs.YtgijigkfmbiifaaGreatDoor
open Go.RowKit
open IntWalk renaming iteOmega → iO, toNatUp → tN
set_option linter.unusedVariables false
set_option linter.unusedSimpArgs false
theorem put_parts (l:List ByteArray) (s:ByteArray) (h:asc l):∃ a b,l=a++b∧(∀ x ∈ a,bless x s=true)∧(∀ x ∈ b,bless x s=false)∧((s ∈ b∧putM l s=l)∨(s ∉ b∧putM l s=a++s :: b)):=by
 refine ⟨l.takeWhile fun x=>bless x s,l.dropWhile fun x=>bless x s,List.takeWhile_append_dropWhile.symm,fun x hx=>?_,fun x hx=>?_,?_⟩
 ·have:=List.all_takeWhile (p:=fun x=>bless x s) (l:=l)
  exact List.all_eq_true.1 this x hx
 ·induction l with
  | nil=>simp at hx
  | cons a l ih =>
   obtain ⟨h1,h2⟩:=List.pairwise_cons.1 h
   rw [List.dropWhile_cons] at hx
   split at hx
   ·exact ih h2 hx
   ·rename_i hb
    rcases List.mem_cons.1 hx with rfl|hx
    ·simpa using hb
    ·cases hc:bless x s
     ·rfl
     ·exact absurd (bless_trans (h1 x hx) hc) (by simpa using hb)
 ·have hi:l.take (l.takeWhile fun x=>bless x s).length=l.takeWhile fun x=>bless x s:=by
   conv=>lhs;arg 2;rw [← List.takeWhile_append_dropWhile (p:=fun x=>bless x s) (l:=l)]
   rw [List.take_left]
  have hd:l.drop (l.takeWhile fun x=>bless x s).length=l.dropWhile fun x=>bless x s:=by
   conv=>lhs;arg 2;rw [← List.takeWhile_append_dropWhile (p:=fun x=>bless x s) (l:=l)]
   rw [List.drop_left]
  have hg:∀ d,l.getD (l.takeWhile fun x=>bless x s).length d=(l.dropWhile fun x=>bless x s).getD 0 d:=by
   intro d
   rw [← hd]
   simp [List.getD]
  have hlen:(l.takeWhile fun x=>bless x s).length+(l.dropWhile fun x=>bless x s).length=l.length:=by
   rw [← List.length_append,List.takeWhile_append_dropWhile]
  unfold putM
  simp only [hi,hd,hg]
  have hasc:asc (l.dropWhile fun x=>bless x s):=h.sublist (List.dropWhile_sublist _)
  cases hb:l.dropWhile fun x=>bless x s with
  | nil =>
   rw [hb] at hlen
   simp only [List.length_nil,Nat.add_zero] at hlen
   exact .inr ⟨by simp,by rw [if_neg (fun h=>absurd h.2 (by omega))]⟩
  | cons c b =>
   rw [hb] at hlen hasc
   simp only [List.length_cons] at hlen
   have hc:bless c s=false:=by
    have:=List.head?_dropWhile_not (fun x=>bless x s) l
    rw [hb] at this
    simpa using this
   by_cases he:c=s
   ·exact .inl ⟨by simp [he],by rw [if_pos ⟨by simpa using he,by omega⟩]⟩
   ·refine .inr ⟨?_,by rw [if_neg (fun h=>he (by simpa using h.1))]⟩
    rintro hm
    rcases List.mem_cons.1 hm with e|e
    ·exact he e.symm
    ·have:=(List.pairwise_cons.1 hasc).1 s e
     rw [hc] at this
     cases this
theorem putA_mem {l:List ByteArray} {s x:ByteArray} (h:asc l):x ∈ putM l s ↔ x ∈ l∨x=s:=by
 obtain ⟨a,b,rfl,h1,h2,⟨hs,h3⟩|⟨hs,h3⟩⟩:=put_parts l s h
 all_goals rw [h3]
 ·constructor
  ·exact .inl
  ·rintro (h|rfl)
   ·exact h
   ·exact List.mem_append.2 (.inr hs)
 ·simp only [List.mem_append,List.mem_cons]
  constructor
  ·rintro (h|h|h)
   ·exact .inl (.inl h)
   ·exact .inr h
   ·exact .inl (.inr h)
  ·rintro ((h|h)|h)
   ·exact .inl h
   ·exact .inr (.inr h)
   ·exact .inr (.inl h)
theorem put_asc {l:List ByteArray} {s:ByteArray} (h:asc l):asc (putM l s):=by
 obtain ⟨a,b,rfl,h1,h2,⟨hs,h3⟩|⟨hs,h3⟩⟩:=put_parts l s h
 all_goals rw [h3]
 ·exact h
 ·obtain ⟨p1,p2,p3⟩:=List.pairwise_append.1 h
  have hsb:∀ y ∈ b,bless s y=true:=by
   intro y hy
   cases hc:bless s y
   ·exact absurd (bless_total (h2 y hy) hc) (by rintro rfl;exact hs hy)
   ·rfl
  refine List.pairwise_append.2 ⟨p1,List.pairwise_cons.2 ⟨hsb,p2⟩,fun x hx y hy=>?_⟩
  rcases List.mem_cons.1 hy with rfl|hy
  ·exact h1 x hx
  ·exact p3 x hx y hy
theorem asc_nil:asc []:=List.Pairwise.nil
noncomputable def listOf (P:ByteArray → Prop):List ByteArray:=open Classical in if h:∃ m,asc m∧∀ x,x ∈ m ↔ P x then h.choose else []
theorem listOf_eq {P:ByteArray → Prop} {m:List ByteArray} (h1:asc m) (h2:∀ x,x ∈ m ↔ P x):listOf P=m:=by
 have h:∃ m,asc m∧∀ x,x ∈ m ↔ P x:=⟨m,h1,h2⟩
 unfold listOf
 rw [dif_pos h]
 exact asc_ext h.choose_spec.1 h1 fun x=>(h.choose_spec.2 x).trans (h2 x).symm
theorem exists_asc (P:ByteArray → Prop):∀ l:List ByteArray,∃ m,asc m∧∀ x,x ∈ m ↔ P x∧x ∈ l
 | []=>⟨[],asc_nil,by simp⟩
 | a :: l=>by
  obtain ⟨m,h1,h2⟩:=exists_asc P l
  by_cases hp:P a
  ·refine ⟨putM m a,put_asc h1,fun x=>?_⟩
   rw [putA_mem h1,h2]
   constructor
   ·rintro (⟨h3,h4⟩|rfl)
    ·exact ⟨h3,by simp [h4]⟩
    ·exact ⟨hp,by simp⟩
   ·rintro ⟨h3,h4⟩
    rcases List.mem_cons.1 h4 with rfl|h4
    ·exact .inr rfl
    ·exact .inl ⟨h3,h4⟩
  ·refine ⟨m,h1,fun x=>?_⟩
   rw [h2]
   constructor
   ·rintro ⟨h3,h4⟩
    exact ⟨h3,by simp [h4]⟩
   ·rintro ⟨h3,h4⟩
    rcases List.mem_cons.1 h4 with rfl|h4
    ·exact absurd h3 hp
    ·exact ⟨h3,h4⟩
theorem listOf_spec {P:ByteArray → Prop} (l:List ByteArray) (h:∀ x,P x → x ∈ l):asc (listOf P)∧(∀ x,x ∈ listOf P ↔ P x)∧(listOf P).length≤l.length:=by
 obtain ⟨m,h1,h2⟩:=exists_asc P l
 have h3:∀ x,x ∈ m ↔ P x:=fun x=>(h2 x).trans ⟨fun h=>h.1,fun hp=>⟨hp,h x hp⟩⟩
 rw [listOf_eq h1 h3]
 exact ⟨h1,h3,nodup_len m l (asc_nodup h1) fun x hx=>h x ((h3 x).1 hx)⟩
noncomputable def hardL (M:List Mod) (n:ByteArray):List ByteArray:=listOf fun x=>x=n∨Reach M n x
theorem hard_spec (M:List Mod) (n:ByteArray):asc (hardL M n)∧(∀ x,x ∈ hardL M n ↔ x=n∨Reach M n x)∧(hardL M n).length≤(allNeeds M).length+1:=by
 have:=listOf_spec (P:=fun x=>x=n∨Reach M n x) (n :: allNeeds M) (by
  rintro x (rfl|h)
  ·simp
  ·exact List.mem_cons_of_mem _ (reach_all h))
 simpa [hardL] using this
end Go.Proofs.YtgijigkfmbiifaaGreatDoor
