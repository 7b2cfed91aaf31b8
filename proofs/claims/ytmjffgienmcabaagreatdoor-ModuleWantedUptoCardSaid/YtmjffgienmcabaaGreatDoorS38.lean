/- What the program computes, and the plain laws of it, part 38. -/
import Derived.Test.YtmjffgienmcabaaGreatDoorS30
import Derived.Test.YtmjffgienmcabaaGreatDoorS37
namespace Go.Proofs.YtmjffgienmcabaaGreatDoor
attribute [local irreducible] PL QL PWPr PCalls Weak RetK Kontr PA
open Go.RowKit
open IntWalk renaming iteOmega → iO, toNatUp → tN
set_option linter.unusedVariables false
set_option linter.unusedSimpArgs false
set_option maxRecDepth 20000
structure WMt (l:List Dev) (n:Nat):Prop where
 len:l.length≤n
 dev:∀ d ∈ l,WDev d∧1≤d.index∧d.index≤n
theorem WMt.nil (n:Nat):WMt [] n:=⟨Nat.zero_le _,fun d hd=>by simp at hd⟩
theorem WMt.more {l:List Dev} {n m:Nat} (h:WMt l n) (hm:n≤m):WMt l m:=⟨by have:=h.len;omega,fun d hd=>⟨(h.dev d hd).1,(h.dev d hd).2.1,by have:=(h.dev d hd).2.2;omega⟩⟩
theorem wmt_mem {l:List Dev} {d x:Dev} (h:x ∈ insT l d):x=d∨x ∈ l:=by unfold insT at h;exact put_mem.1 h
theorem wmt_len (l:List Dev) (d:Dev):(insT l d).length=l.length+1:=by
 have:=atM_le l (ownM l d) l.length
 unfold insT
 simp only [List.length_append,List.length_take,List.length_drop,List.length_cons,List.length_nil]
 omega
theorem WMt.ins {l:List Dev} {n:Nat} (h:WMt l n) {d:Dev} (he:insErr l d=0) (hd:WDev d) (h1:1≤d.index) (h2:d.index≤(n:Int)+1):WMt (insT l d) (n+1):=by
 refine ⟨by rw [wmt_len];have:=h.len;omega,fun x hx=>?_⟩
 rcases wmt_mem hx with rfl|hx
 ·exact ⟨hd,h1,by omega⟩
 ·obtain ⟨a,b,c⟩:=h.dev x hx
  exact ⟨a,b,by omega⟩
set_option maxHeartbeats 4000000 in
theorem wtreem_ex (L:List Int) (k n:Nat) (hk:k < 50000) (hn:n≤10) (hL:∀ x ∈ L,-9223372036854775808≤x∧x≤9223372036854775807) (hLl:L.length≤9223372036854775807) :
  PCalls Tryz.prog 7 [.c (.ptr 0 0),.c (.v (.int .i64 n))] [tape L k] fun r os=>∃ (l:List Dev) (k':Nat),WMt l n∧k'≤k+1+20 * n∧r = .agg (trE l)∧os=[tape L k']:=by
 refine pcalls_of Tryz.func7 rfl (by simp [Tryz.ntmps7]) ?_
 rw [Tryz.ntmps7,Tryz.results7]
 push_cast [iO,tN]
 have cB:CutB 9 []:=trivial
 have n1:=next_ex L k ((n:Int)+1) (by omega) (by omega) (by omega) hL hLl
 repeat' (first |  ((refine plc [0] (n1) ?_ ?_;push_cast [iO,tN];rintro r os ⟨v,⟨va,vb⟩,rfl,rfl⟩;push_cast [iO,tN]))  | ((first|refine pC ?_|refine pQC ?_|refine pU ?_);push_cast [iO,tN])|(refine pif (fun h=>?_) (fun h=>?_)<;>first|exact pN h|push_cast [iO,tN]))
 obtain ⟨m,rfl⟩:∃ m:Nat,v=(m:Int):=⟨v.toNat,by omega⟩
 have hm:m≤n:=by omega
 (apply pwp_loop3 (α:=Nat × List Dev × Nat) 9 [] (fun x=>[(6,.c (.v (.int .i64 x.1)))]) (fun x=>[(0,tape L x.2.2),(2,.box 36 (trE x.2.1))]) (fun x=>x.1≤m∧WMt x.2.1 (m - x.1)∧x.2.2+20 * x.1≤k+1+20 * m) (fun x=>x.1) ((m,[],k+1));(focus ((try push_cast [iO,tN]);rfl));(focus exact ⟨Nat.le_refl _,WMt.nil _,Nat.le_refl _⟩);(focus ((refine weak_fg ?_;try push_cast [iO,tN]))))
 rintro ⟨j,l,q⟩ ⟨h1,h2,h3⟩
 simp only at h1 h2 h3
 push_cast [iO,tN]
 have hll:=h2.len
 by_cases hlt:0 < j
 case neg =>
  have hj:j=0:=by omega
  subst hj
  repeat' (first|((first|refine pC ?_|refine pQC ?_|refine pU ?_);push_cast [iO,tN])|(refine pif (fun h=>?_) (fun h=>?_)<;>first|exact pN h|push_cast [iO,tN]))
  (refine retK_of [0] ?_;push_cast [iO,tN])
  exact ⟨_,_,leP_refl _,leOs_refl _,l,q,h2.more (by omega),by omega,rfl,rfl⟩
 have hc:(0:Int) < (j:Int):=by omega
 have hj1:(j:Int) - 1=((j - 1:Nat):Int):=by omega
 have hdv:=wdev_ex L q l (m - j) (by omega) (by omega) (by omega) (fun d hd=>(h2.dev d hd).2.2) (fun d hd=>by have:=(h2.dev d hd).2.1;omega) hL hLl
 have hzl:∀ d ∈ l,d.original.size≤100000:=fun d hd=>by have:=(h2.dev d hd).1.orig;omega
 have hins:∀ d:Dev,WDev d → PCalls Tryz.prog 20 [.agg (trE l),.agg d.e] [] fun r os=>r = .two (.agg (trE (if insErr l d=0 then insT l d else []))) (.c (.v (.int .i64 (insErr l d))))∧os=[]:=fun d hd=>rins_pure l d hd.ok (by have:=hd.orig;omega) hzl (by omega)
 repeat' (first|(refine hidR 5 ?_)|((first|refine pC ?_|refine pQC ?_|refine pU ?_);push_cast [iO,tN,hc])|(refine pif (fun h=>?_) (fun h=>?_)<;>first|exact pN h|push_cast [iO,tN,hc]))
 refine unhid ?_
 (refine pwp_drawn (by kernel_rfl) ?_;try simp only [List.length_cons,List.length_nil,Nat.reduceAdd];repeat' first|(refine plc [0] (hdv) ?_ ?_;push_cast [iO,tN,  hc];rintro r os ⟨d,q2,⟨e1,e2,e3⟩,e4,rfl,rfl⟩;push_cast [iO,tN,  hc])|(refine plc [] ((hins d e1)) ?_ ?_;push_cast [iO,tN,  hc];rintro r os ⟨rfl,rfl⟩;push_cast [iO,tN,  hc])|((first|refine pah 1 ?_|refine pah 5 ?_|refine pah 6 ?_|refine pah 7 ?_);push_cast [iO,tN,  hc])|(refine pad ?_;try push_cast [iO,tN,  hc])|((first|refine pas [0] ?_|refine pas [2] ?_|refine pas [3] ?_|refine pas [4] ?_|refine pas [8] ?_|refine pas [9] ?_|refine pas [10] ?_);push_cast [iO,tN,  hc])|((first|refine pas [0,2] ?_|refine pas [0,3] ?_|refine pas [0,4] ?_|refine pas [0,8] ?_|refine pas [0,9] ?_|refine pas [0,10] ?_|refine pas [2,3] ?_|refine pas [2,4] ?_|refine pas [2,8] ?_|refine pas [2,9] ?_|refine pas [2,10] ?_|refine pas [3,4] ?_|refine pas [3,8] ?_|refine pas [3,9] ?_|refine pas [3,10] ?_|refine pas [4,8] ?_|refine pas [4,9] ?_|refine pas [4,10] ?_|refine pas [8,9] ?_|refine pas [8,10] ?_|refine pas [9,10] ?_);push_cast [iO,tN,  hc];refine ⟨?_,?_⟩)|((first|refine pas [0,2,3] ?_|refine pas [0,2,4] ?_|refine pas [0,2,8] ?_|refine pas [0,2,9] ?_|refine pas [0,2,10] ?_|refine pas [0,3,4] ?_|refine pas [0,3,8] ?_|refine pas [0,3,9] ?_|refine pas [0,3,10] ?_|refine pas [0,4,8] ?_|refine pas [0,4,9] ?_|refine pas [0,4,10] ?_|refine pas [0,8,9] ?_|refine pas [0,8,10] ?_|refine pas [0,9,10] ?_|refine pas [2,3,4] ?_|refine pas [2,3,8] ?_|refine pas [2,3,9] ?_|refine pas [2,3,10] ?_|refine pas [2,4,8] ?_|refine pas [2,4,9] ?_|refine pas [2,4,10] ?_|refine pas [2,8,9] ?_|refine pas [2,8,10] ?_|refine pas [2,9,10] ?_|refine pas [3,4,8] ?_|refine pas [3,4,9] ?_|refine pas [3,4,10] ?_|refine pas [3,8,9] ?_|refine pas [3,8,10] ?_|refine pas [3,9,10] ?_|refine pas [4,8,9] ?_|refine pas [4,8,10] ?_|refine pas [4,9,10] ?_|refine pas [8,9,10] ?_);push_cast [iO,tN,  hc];refine ⟨?_,?_,?_⟩))
 all_goals by_cases he:insErr l d=0
 all_goals repeat' (first|((first|refine pC ?_|refine pQC ?_|refine pU ?_);push_cast [iO,tN,he,if_true,if_false])|(refine pif (fun h=>?_) (fun h=>?_)<;>first|exact pN h|push_cast [iO,tN,he,if_true,if_false]))
 all_goals first|exact ⟨(j - 1,insT l d,q2),⟨by simp only;omega,(h2.ins he e1 e2 e3).more (by simp only;omega),by simp only;omega⟩,by rw [← hj1];(refine weak_fg ?_;push_cast [iO,tN]),by simp only;omega⟩|exact ⟨(j - 1,l,q2),⟨by simp only;omega,h2.more (by simp only;omega),by simp only;omega⟩,by rw [← hj1];(refine weak_fg ?_;push_cast [iO,tN]),by simp only;omega⟩
set_option maxRecDepth 20000
theorem wcfg_seed {c:Cfg} (h:WCfg c):SeedOk c:=by
 have hz:(10:Nat)≤maxLen:=by unfold maxLen;omega
 have hm:∀ m ∈ c.modules,m.aliases.length≤2∧(∀ x ∈ m.aliases,x.size≤10)∧m.name.size≤10:=fun m hm=>by
  have:∀ m ∈ wmL,m.aliases.length≤2∧(∀ x ∈ m.aliases,x.size≤10)∧m.name.size≤10:=by decide +kernel
  exact this m (h.sub.subset hm)
 have hl:=h.sub.length_le
 have hw:wmL.length=8:=rfl
 refine ⟨⟨by omega,fun m hx=>by have:=(hm m hx).1;omega,by have:=h.ext;omega,by have:=h.bl;omega⟩,fun y hy=>?_,by have:=h.keep;omega,fun m hx=>Nat.le_trans (hm m hx).2.2 hz⟩
 unfold entsC at hy
 rcases List.mem_append.1 hy with hy|hy
 ·obtain ⟨m,h1,h2⟩:=List.mem_flatMap.1 hy
  unfold entM at h2
  split at h2
  ·cases h2
  ·obtain ⟨p,h3,rfl⟩:=List.mem_map.1 h2
   have:=(hm m h1).2.1 p h3
   show p.size≤_
   omega
 ·obtain ⟨e,h1,h2⟩:=List.mem_flatMap.1 hy
  unfold entX at h2
  split at h2
  ·rw [List.mem_singleton] at h2
   subst h2
   have:=h.pat e h1
   show e.name.size≤_
   omega
  ·cases h2
def al20:List ByteArray:=[⟨#[117,115,98,58,118,49]⟩,⟨#[117,115,98,58,118,49,50]⟩,⟨#[117,115,98,58,118,50]⟩,⟨#[112,99,105,58,100,50]⟩,⟨#[112,99,105,58,100,51]⟩,⟨#[120,58,49]⟩,⟨#[118,105,114,116,105,111]⟩,⟨#[]⟩]
set_option maxHeartbeats 4000000 in
theorem walias_pure (L:List Int) (k:Nat) (hk:k < 100000) (hL:∀ x ∈ L,-9223372036854775808≤x∧x≤9223372036854775807) (hl:L.length≤9223372036854775807) :
  PCalls Tryz.prog 24 [.c (.ptr 0 0)] [tape L k] fun r os=>r = .c (.v (.string (pick L k al20)))∧os=[tape L (k+1)]:=by
 have ho:=one_pure L k al20 (by omega) (by decide) (by decide) hL hl
 obtain ⟨s,hs⟩:∃ s,pick L k al20=s:=⟨_,rfl⟩
 rw [hs] at ho ⊢
 unfold al20 at ho
 refine pcalls_of Tryz.func24 rfl (by simp [Tryz.ntmps24]) ?_
 rw [Tryz.ntmps24,Tryz.results24]
 push_cast [iO,tN]
 repeat' (first |  ((refine plc [0] (ho) ?_ ?_;push_cast [iO,tN];rintro r os ⟨rfl,rfl⟩;push_cast [iO,tN]))  | ((first|refine pG ?_|refine pQ ?_|refine pU ?_);push_cast [iO,tN])|(refine pif (fun h=>?_) (fun h=>?_)<;>first|exact pN h|push_cast [iO,tN]))
 (refine retK_of [0] ?_;push_cast [iO,tN])
set_option maxHeartbeats 4000000 in
theorem wsome_ex (L:List Int) (k:Nat) (l:List Dev) (hk:k < 100000) (hll:l.length≤1000) (hL:∀ x ∈ L,-9223372036854775808≤x∧x≤9223372036854775807) (hl:L.length≤9223372036854775807) :
  PCalls Tryz.prog 22 [.c (.ptr 0 0),.agg (trE l)] [tape L k] fun r os=>∃ (v:Int) (k':Nat),k'≤k+2∧r = .c (.v (.int .i64 v))∧os=[tape L k']:=by
 refine pcalls_of Tryz.func22 rfl (by simp [Tryz.ntmps22]) ?_
 rw [Tryz.ntmps22,Tryz.results22]
 push_cast [iO,tN]
 have cB:CutB 6 [15]:=trivial
 by_cases h0:0 < l.length
 case neg =>
  have h0':¬ (0:Int) < (l.length:Int):=by omega
  have n1:=next_ex L k 40 (by omega) (by decide) (by decide) hL hl
  repeat' (first|((refine plc [0] (n1) ?_ ?_;push_cast [iO,tN,h0'];rintro r os ⟨v,⟨va,vb⟩,rfl,rfl⟩;push_cast [iO,tN,h0']))|((first|refine pC ?_|refine pQC ?_|refine pU ?_);push_cast [iO,tN,h0'])|(refine pif (fun h=>?_) (fun h=>?_)<;>first|exact pN h|push_cast [iO,tN,h0']))
  (refine retK_of [0] ?_;push_cast [iO,tN])
  exact ⟨_,_,leP_refl _,leOs_refl _,v - 1,k+1,by omega,rfl,rfl⟩
 have h0':(0:Int) < (l.length:Int):=by omega
 have n1:=next_ex L k 8 (by omega) (by decide) (by decide) hL hl
 have n2:=next_ex L (k+1) 40 (by omega) (by decide) (by decide) hL hl
 have n3:=next_pure L (k+1) l.length (by omega) (by omega) hL hl
 obtain ⟨hb1,hb2⟩:=fold_bds (tapeAt L (k+1)) l.length h0'
 obtain ⟨g,hg⟩:∃ g:Nat,fold (tapeAt L (k+1)) l.length=(g:Int):=⟨(fold (tapeAt L (k+1)) l.length).toNat,by omega⟩
 rw [hg] at n3 hb2
 have hgl:g < l.length:=by omega
 repeat' (first|((refine plc [0] (n1) ?_ ?_;push_cast [iO,tN,h0'];rintro r os ⟨v,⟨va,vb⟩,rfl,rfl⟩;push_cast [iO,tN,h0']))|(refine hidR 3 ?_)|((refine plc [0] (n2) ?_ ?_;push_cast [iO,tN,h0'];rintro r os ⟨v2,⟨va2,vb2⟩,rfl,rfl⟩;push_cast [iO,tN,h0']))|((first|refine pC ?_|refine pQC ?_|refine pU ?_);push_cast [iO,tN,h0'])|(refine pif (fun h=>?_) (fun h=>?_)<;>first|exact pN h|push_cast [iO,tN,h0']))
 ·refine unhid ?_
  (refine pwp_cut 6 [15] ?_;refine pwp_drawn (by kernel_rfl) ?_;simp only [List.length_cons,List.length_nil,Nat.reduceAdd];refine pah 0 ?_;push_cast [iO,tN];refine pah 2 ?_;push_cast [iO,tN];refine pah 3 ?_;push_cast [iO,tN];apply pa_hav;intro z4;apply pa_hav;intro z3;apply pa_hav;intro z1;apply pa_hav;intro z2;refine pas [1,4] ?_;push_cast [iO,tN];refine ⟨?_,?_⟩;(focus (exact z1));(focus ((first|((refine plc [0] (n3) ?_ ?_;push_cast [iO,tN];rintro r os ⟨rfl,rfl⟩;push_cast [iO,tN])));exact z2));refine pas [1] ?_;push_cast [iO,tN];(focus (refine pah 5 ?_;push_cast [iO,tN];refine pah 6 ?_;push_cast [iO,tN];exact z3));refine pas [4] ?_;push_cast [iO,tN];(focus ((first|((refine plc [0] (n3) ?_ ?_;push_cast [iO,tN];rintro r os ⟨rfl,rfl⟩;push_cast [iO,tN])));refine pah 5 ?_;push_cast [iO,tN];refine pah 6 ?_;push_cast [iO,tN];refine paw z3 ?_;refine weak_fg ?_;push_cast [iO,tN]));refine pas [7] ?_;push_cast [iO,tN];(focus (refine pah 8 ?_;push_cast [iO,tN];exact paw z4 (weak_cutS 6 [15] _)));push_cast [iO,tN];refine pad ?_;push_cast [iO,tN])
  repeat' (first|((first|refine pC ?_|refine pQC ?_|refine pU ?_);push_cast [iO,tN])|(refine pif (fun h=>?_) (fun h=>?_)<;>first|exact pN h|push_cast [iO,tN]))
  (refine retK_of [0] ?_;push_cast [iO,tN])
  exact ⟨_,_,leP_refl _,leOs_refl _,_,k+1+1,by omega,rfl,rfl⟩
 ·(refine retK_of [0] ?_;push_cast [iO,tN])
  exact ⟨_,_,leP_refl _,leOs_refl _,v2 - 1,k+1+1,by omega,rfl,rfl⟩
def recZ (v:Int) (l:List ByteArray):Rec:=⟨⟨#[]⟩,v,[],[],[],[],l,⟨#[]⟩,0,⟨#[]⟩,⟨#[]⟩,0⟩
theorem putM_sub {l:List ByteArray} {s x:ByteArray} (h:x ∈ putM l s):x ∈ l∨x=s:=by
 unfold putM at h
 simp only at h
 split at h
 ·exact .inl h
 ·rcases List.mem_append.1 h with h|h
  ·exact .inl (List.mem_of_mem_take h)
  ·rcases List.mem_cons.1 h with h|h
   ·exact .inr h
   ·exact .inl (List.mem_of_mem_drop h)
theorem putM_len (l:List ByteArray) (s:ByteArray):(putM l s).length≤l.length+1:=by
 unfold putM
 simp only
 split
 ·omega
 ·rw [List.length_append,List.length_cons,List.length_take,List.length_drop];omega
structure RecsOk (rs:List Rec):Prop where
 len:rs.length≤3
 load:∀ r ∈ rs,r.load.length≤2∧∀ s ∈ r.load,s.size≤10
set_option maxRecDepth 20000
set_option maxHeartbeats 8000000 in
theorem records20_own (L:List Int) (k:Nat) (l:List Dev) (hk:k < 90000) (hll:l.length≤1000) (hL:∀ x ∈ L,-9223372036854775808≤x∧x≤9223372036854775807) (hl:L.length≤9223372036854775807) :
  PCalls Tryz.prog 8 [.c (.ptr 0 0),.agg (trE l)] [tape L k] fun r os=>∃ (rs:List Rec) (k':Nat),(RecsOk rs∧k'≤k+20)∧r = .c (.own 1 rs.length)∧os=[tape L k',.arr 64 12 (rs.map Rec.d)]:=by
 refine pcalls_of Tryz.func8 rfl (by simp [Tryz.ntmps8]) ?_
 rw [Tryz.ntmps8,Tryz.results8]
 push_cast [iO,tN]
 have cB:CutB 9 []:=trivial
 repeat' (first |  ((refine plc [0] (next_ex L k 4 (by omega) (by omega) (by omega) hL hl) ?_ ?_;push_cast [iO,tN];rintro r os ⟨v,hv,rfl,rfl⟩;push_cast [iO,tN]))  | ((first|refine pC ?_|refine pQC ?_|refine pU ?_);push_cast [iO,tN])|(refine pif (fun h=>?_) (fun h=>?_)<;>first|exact pN h|push_cast [iO,tN]))
 obtain ⟨n,rfl⟩:∃ n:Nat,v=(n:Int):=⟨v.toNat,by omega⟩
 refine pwp_weak (weak_adopt 5 64 12 (by omega) (by push_cast [iO,tN])) ?_
 push_cast [iO,tN]
 (apply pwp_loop3 (α:=Nat × List Rec × Nat) 9 [] (fun x=>[(6,.c (.v (.int .i64 x.1))),(5,.c (.own 2 (x.2.1.length)))]) (fun x=>[(0,tape L x.2.2),(2,.arr 64 12 (x.2.1.map Rec.d))]) (fun x=>x.1+x.2.1.length≤3∧(∀ r ∈ x.2.1,r.load.length≤2∧∀ s ∈ r.load,s.size≤10)∧x.2.2+6 * x.1≤k+1+6 * n) (fun x=>x.1) ((n,[],k+1));(focus ((try push_cast [iO,tN]);rfl));(focus exact ⟨by simp;omega,by simp,by (simp only;omega)⟩);(focus ((refine weak_fg ?_;try push_cast [iO,tN]))))
 rintro ⟨j,rs,q⟩ ⟨hj,hrs,hq⟩
 simp only at hj hrs hq ⊢
 push_cast [iO,tN]
 by_cases h0:0 < j
 case neg =>
  have hj2:j=0:=by omega
  subst hj2
  repeat' (first|((first|refine pC ?_|refine pQC ?_|refine pU ?_);push_cast [iO,tN])|(refine pif (fun h=>?_) (fun h=>?_)<;>first|exact pN h|push_cast [iO,tN]))
  (refine retK_of [0,2] ?_;push_cast [iO,tN])
  exact ⟨_,_,leP_refl _,leOs_refl _,rs,q,⟨⟨by omega,hrs⟩,by omega⟩,rfl,rfl⟩
 have h0':(0:Int) < (j:Int):=by omega
 have hj1:(j:Int) - 1=((j - 1:Nat):Int):=by omega
 have hs:=wsome_ex L q l (by omega) hll hL hl
 repeat' (first|((refine plc [0] (hs) ?_ ?_;push_cast [iO,tN,h0'];rintro r os ⟨v,q1,hq1,rfl,rfl⟩;push_cast [iO,tN,h0']))|((refine plc [0] (next_ex L q1 3 (by omega) (by omega) (by omega) hL hl) ?_ ?_;push_cast [iO,tN,h0'];rintro r os ⟨v3,⟨va,vb⟩,rfl,rfl⟩;push_cast [iO,tN,h0']))|((first|refine pC ?_|refine pQC ?_|refine pU ?_);push_cast [iO,tN,h0'])|(refine pif (fun h=>?_) (fun h=>?_)<;>first|exact pN h|push_cast [iO,tN,h0']))
 obtain ⟨n3,rfl⟩:∃ n:Nat,v3=(n:Int):=⟨v3.toNat,by omega⟩
 (apply pwp_loop3 (α:=Nat × List ByteArray × Nat) 9 [] (fun y=>[(8,.c (.v (.int .i64 y.1)))]) (fun y=>[(0,tape L y.2.2),(3,.box 64 ((recZ v y.2.1).d.map D.e))]) (fun y=>y.1+y.2.1.length≤2∧(∀ s ∈ y.2.1,s.size≤10)∧y.2.2+y.1≤q1+1+n3) (fun y=>y.1) ((n3,[],q1+1));(focus ((try push_cast [iO,tN]);rfl));(focus exact ⟨by simp;omega,by simp,by (simp only;omega)⟩);(focus ((refine weak_fg ?_;try push_cast [iO,tN]);(try (simp [recZ,Rec.d,D.e])))))
 rintro ⟨i,ld,p⟩ ⟨hi,hld,hp⟩
 simp only at hi hld hp ⊢
 unfold recZ
 push_cast [iO,tN]
 by_cases hi0:0 < i
 case neg =>
  have hi2:i=0:=by omega
  subst hi2
  repeat' (first|((first|refine pC ?_|refine pQC ?_|refine pU ?_);push_cast [iO,tN])|(refine pif (fun h=>?_) (fun h=>?_)<;>first|exact pN h|push_cast [iO,tN]))
  refine ⟨(j - 1,rs++[recZ v ld],p),⟨by simp;omega,fun r hr=>?_,by simp only;omega⟩,by (refine weak_fg ?_;push_cast [iO,tN,← hj1,recZ]),by simp only;omega⟩
  rcases List.mem_append.1 hr with hr|hr
  ·exact hrs r hr
  ·rw [List.mem_singleton] at hr
   subst hr
   exact ⟨by unfold recZ;simp only;omega,hld⟩
 have hi0':(0:Int) < (i:Int):=by omega
 have hi1:(i:Int) - 1=((i - 1:Nat):Int):=by omega
 have hal:=walias_pure L p (by omega) hL hl
 have hsz:(pick L p al20).size≤10:=pick_size (by decide) (by decide)
 obtain ⟨s,hs⟩:∃ s,pick L p al20=s:=⟨_,rfl⟩
 rw [hs] at hal hsz
 have hpu:=put_pure ld s (by omega)
 have hpl:=putM_len ld s
 have hpm:∀ x ∈ putM ld s,x.size≤10:=fun x hx=>(putM_sub hx).elim (hld x) fun e=>e ▸ hsz
 obtain ⟨ld2,hl2⟩:∃ ld2,putM ld s=ld2:=⟨_,rfl⟩
 rw [hl2] at hpu hpl hpm
 repeat' (first|(refine hidR 9 ?_)|((first|refine pC ?_|refine pQC ?_|refine pU ?_);push_cast [iO,tN,hi0'])|(refine pif (fun h=>?_) (fun h=>?_)<;>first|exact pN h|push_cast [iO,tN,hi0']))
 refine unhid ?_
 (refine pwp_cut 9 [] ?_;refine pwp_drawn (by kernel_rfl) ?_;simp only [List.length_cons,List.length_nil,Nat.reduceAdd];refine pah 0 ?_;push_cast [iO,tN];refine pah 2 ?_;push_cast [iO,tN];apply pa_hav;intro z5;apply pa_hav;intro z4;apply pa_hav;intro z3;apply pa_hav;intro z1;apply pa_hav;intro z2;refine pas [1,3] ?_;push_cast [iO,tN];refine ⟨?_,?_⟩;(focus (exact z1));(focus ((first|((refine plc [0] (hal) ?_ ?_;push_cast [iO,tN];rintro r os ⟨rfl,rfl⟩;push_cast [iO,tN]))|((refine plc [] (hpu) ?_ ?_;push_cast [iO,tN];rintro r os ⟨rfl,rfl⟩;push_cast [iO,tN])));exact z2));refine pas [1] ?_;push_cast [iO,tN];refine z3;refine pas [3] ?_;push_cast [iO,tN];(focus ((first|((refine plc [0] (hal) ?_ ?_;push_cast [iO,tN];rintro r os ⟨rfl,rfl⟩;push_cast [iO,tN]))|((refine plc [] (hpu) ?_ ?_;push_cast [iO,tN];rintro r os ⟨rfl,rfl⟩;push_cast [iO,tN])));refine paw z3 ?_;refine weak_fg ?_;push_cast [iO,tN]));refine pas [4] ?_;push_cast [iO,tN];(focus ((first|((refine plc [0] (hal) ?_ ?_;push_cast [iO,tN];rintro r os ⟨rfl,rfl⟩;push_cast [iO,tN]))|((refine plc [] (hpu) ?_ ?_;push_cast [iO,tN];rintro r os ⟨rfl,rfl⟩;push_cast [iO,tN])));refine pah 5 ?_;push_cast [iO,tN];exact z4));refine pas [6] ?_;push_cast [iO,tN];refine paw z5 (weak_cutS 9 [] _);push_cast [iO,tN];refine pad ?_;push_cast [iO,tN])
 repeat' (first|((first|refine pC ?_|refine pQC ?_|refine pU ?_);push_cast [iO,tN])|(refine pif (fun h=>?_) (fun h=>?_)<;>first|exact pN h|push_cast [iO,tN]))
 exact ⟨(i - 1,ld2,p+1),⟨by simp only;omega,hpm,by simp only;omega⟩,by (refine weak_fg ?_;push_cast [iO,tN,← hi1,recZ]),by simp only;omega⟩
end Go.Proofs.YtmjffgienmcabaaGreatDoor
namespace Go.Proofs.YtmjffgienmcabaaGreatDoor
open Go.RowKit
open IntWalk renaming iteOmega → iO, toNatUp → tN
set_option linter.unusedVariables false
set_option linter.unusedSimpArgs false
def freeV (M:List Mod) (W st:List ByteArray) (s:ByteArray):Bool:=!(st.any fun o=>inM s (needsOf M o)) && !inM s W
def unlF (M:List Mod) (W:List ByteArray):Nat → List ByteArray → List ByteArray × List ByteArray
 | 0,st=>([],st)
 | n+1,st=>match st.find? (freeV M W st) with
  | none=>([],st)
  | some b=>(b :: (unlF M W n (st.filter fun x=>decide (x≠b))).1,(unlF M W n (st.filter fun x=>decide (x≠b))).2)
def unlM (M:List Mod) (W loaded:List ByteArray):List ByteArray × List ByteArray:=unlF M W (ascOf loaded).length (ascOf loaded)
structure UInv (M:List Mod) (W S0 gone st:List ByteArray):Prop where
 asc:asc st
 eq:unlF M W S0.length S0=(gone++(unlF M W st.length st).1,(unlF M W st.length st).2)
 len:st.length+gone.length≤S0.length
theorem UInv.start {M:List Mod} {W S0:List ByteArray} (h:Go.Proofs.YtmjffgienmcabaaGreatDoor.asc S0):UInv M W S0 [] S0:=⟨h,by simp,by simp⟩
theorem UInv.step {M:List Mod} {W S0 gone st:List ByteArray} {b:ByteArray} (h:UInv M W S0 gone st) (hb:st.find? (freeV M W st)=some b):UInv M W S0 (gone++[b]) (st.filter fun x=>decide (x≠b)):=by
 have hm:=List.mem_of_find?_eq_some hb
 have hl:=filter_len (asc_nodup h.asc) hm
 refine ⟨h.asc.sublist List.filter_sublist,?_,?_⟩
 ·rw [h.eq,← hl]
  simp only [unlF,hb,List.append_assoc,List.cons_append,List.nil_append]
 ·have:=h.len;simp only [List.length_append,List.length_cons,List.length_nil];omega
theorem UInv.stop {M:List Mod} {W S0 gone st:List ByteArray} (h:UInv M W S0 gone st) (hb:st.find? (freeV M W st)=none):unlF M W S0.length S0=(gone,st):=by
 rw [h.eq]
 cases st.length with
 | zero=>simp [unlF]
 | succ n=>simp [unlF,hb]
theorem unl_len (M:List Mod) (W:List ByteArray):∀ (n:Nat) (st:List ByteArray),(unlF M W n st).1.length≤n∧(unlF M W n st).2.length≤st.length
 | 0,st=>by simp [unlF]
 | n+1,st=>by
  unfold unlF
  split
  ·simp
  ·rename_i b _
   obtain ⟨h1,h2⟩:=unl_len M W n (st.filter fun x=>decide (x≠b))
   have h3:=List.length_filter_le (fun x=>decide (x≠b)) st
   simp only [List.length_cons]
   exact ⟨by omega,by omega⟩
theorem unlM_len (M:List Mod) (W l:List ByteArray):(unlM M W l).1.length≤l.length∧(unlM M W l).2.length≤l.length:=by
 obtain ⟨h1,h2⟩:=unl_len M W (ascOf l).length (ascOf l)
 have h3:=(ascOf_spec l).2.2
 unfold unlM
 exact ⟨by omega,by omega⟩
def planL (M:List Mod) (loaded W:List ByteArray):List (Int × ByteArray) :=
 (unlM M W loaded).1.map (fun s=>((9:Int),s))++(ordM M (unlM M W loaded).2 (restM (unlM M W loaded).2 W)).map fun s=>((8:Int),s)
end Go.Proofs.YtmjffgienmcabaaGreatDoor
namespace Go.Proofs.YtmjffgienmcabaaGreatDoor
attribute [local irreducible] PL QL PWPr PCalls Weak RetK Kontr PA
open Go.RowKit
open IntWalk renaming iteOmega → iO, toNatUp → tN
set_option linter.unusedVariables false
set_option linter.unusedSimpArgs false
set_option maxRecDepth 20000
def needsE (l:List Mod):List (MK × List D):=l.map fun m=>(.s m.name,[.sl 1 (m.needs.map strD)])
theorem mget_needs (n:ByteArray):∀ l:List Mod,mget (needsE l) (.s n)=(modOf l n).map fun m=>[.sl 1 (m.needs.map strD)]
 | []=>rfl
 | a :: l=>by
  have ih:=mget_needs n l
  simp only [needsE,List.map_cons,mget,MK.s.injEq,modOf,List.find?_cons] at ih ⊢
  by_cases h:a.name=n
  ·simp [h]
  ·simp only [h,if_false,decide_false]
   exact ih
theorem mput_needs (m:Mod):∀ l:List Mod,(∀ x ∈ l,x.name≠m.name) → mput (needsE l) (.s m.name) [.sl 1 (m.needs.map strD)]=needsE (l++[m])
 | [],_=>rfl
 | a :: l,h=>by
  have ih:=mput_needs m l (fun x hx=>h x (by simp [hx]))
  have h1:=h a (by simp)
  simp only [needsE,List.map_cons,mput,MK.s.injEq,h1,if_false,List.cons_append] at ih ⊢
  rw [ih]
theorem take_names {M:List Mod} (hnd:(M.map Mod.name).Nodup) {k:Nat} (hlt:k < M.length):∀ x ∈ M.take k,x.name≠(M.getD k default).name:=by
 intro x hx he
 rw [getD_lt M hlt] at he
 rw [List.mem_iff_getElem?] at hx
 obtain ⟨i,hi⟩:=hx
 rw [List.getElem?_take] at hi
 split at hi
 ·rename_i hik
  have:=(List.getElem?_inj (l:=M.map Mod.name) (i:=i) (j:=k) (by simp;omega) hnd).1 (by rw [List.getElem?_map,List.getElem?_map,hi,List.getElem?_eq_getElem hlt];simp [he])
  omega
 ·cases hi
def unlOs (M:List Mod) (W st:List ByteArray):List Ob:=[.arr 9 1 (st.map strD),.map none false (needsE M),.box 114 [.mp 1],.box 29 [.own 0 st.length],.box 29 [.sl 1 (W.map strD)]]
set_option maxHeartbeats 4000000 in
theorem unl11_pure (M:List Mod) (W st:List ByteArray) (s x:ByteArray) (hl:(needsOf M x).length≤1000000000) :
  PCalls Tryz.prog 62 [.c (.v (.string x)),.c (.ptr 2 0),.c (.ptr 5 0)] (unlOs M W st++[.box 9 [.v (.string s)]]) fun r os=>r = .c (.v (.bool (inM s (needsOf M x))))∧os=unlOs M W st++[.box 9 [.v (.string s)]]:=by
 unfold needsOf at hl ⊢
 unfold unlOs
 refine pcalls_of Tryz.func62 rfl (by simp [Tryz.ntmps62]) ?_
 rw [Tryz.ntmps62,Tryz.results62]
 cases hm:modOf M x with
 | none =>
  have hcon:=containsD_pure [] s (by simp)
  have hno:(noMod.needs:List ByteArray)=[]:=rfl
  simp only [Option.getD_none,hno]
  push_cast [iO,tN]
  repeat' (first|((refine plc [] (hcon) ?_ ?_;push_cast [iO,tN,mget_needs,hm];rintro r os ⟨rfl,rfl⟩;push_cast [iO,tN,mget_needs,hm]))|((first|refine pG ?_|refine pQ ?_|refine pU ?_);push_cast [iO,tN,mget_needs,hm])|(refine pif (fun h=>?_) (fun h=>?_)<;>first|exact pN h|push_cast [iO,tN,mget_needs,hm]))
  (refine retK_of [0,1,2,3,4,5] ?_;push_cast [iO,tN])
 | some m =>
  rw [hm] at hl
  have hcon:=containsD_pure m.needs s hl
  simp only [Option.getD_some]
  push_cast [iO,tN]
  repeat' (first|((refine plc [] (hcon) ?_ ?_;push_cast [iO,tN,mget_needs,hm];rintro r os ⟨rfl,rfl⟩;push_cast [iO,tN,mget_needs,hm]))|((first|refine pG ?_|refine pQ ?_|refine pU ?_);push_cast [iO,tN,mget_needs,hm])|(refine pif (fun h=>?_) (fun h=>?_)<;>first|exact pN h|push_cast [iO,tN,mget_needs,hm]))
  (refine retK_of [0,1,2,3,4,5] ?_;push_cast [iO,tN])
set_option maxHeartbeats 4000000 in
theorem unl1_pure (M:List Mod) (W st:List ByteArray) (s:ByteArray) (hl:∀ x,(needsOf M x).length≤1000000000) (hW:W.length≤1000000000) (hst:st.length≤1000000) :
  PCalls Tryz.prog 60 [.c (.v (.string s)),.c (.ptr 3 0),.c (.ptr 2 0),.c (.ptr 4 0)] (unlOs M W st) fun r os=>r = .c (.v (.bool (freeV M W st s)))∧os=unlOs M W st:=by
 have h11:=fun x=>unl11_pure M W st s x (hl x)
 unfold unlOs at h11
 simp only [List.cons_append,List.nil_append] at h11
 have hcf:=containsFunc_pure st (by omega) 62 [2,5] [.map none false (needsE M),.box 114 [.mp 1],.box 29 [.own 0 st.length],.box 29 [.sl 1 (W.map strD)],.box 9 [.v (.string s)]] (fun x=>inM s (needsOf M x)) ⟨by kernel_rfl,fun x _=>h11 x⟩
 have hcw:=containsD_pure W s hW
 unfold freeV
 unfold unlOs
 refine pcalls_of Tryz.func60 rfl (by simp [Tryz.ntmps60]) ?_
 rw [Tryz.ntmps60,Tryz.results60]
 cases hb:st.any fun x=>inM s (needsOf M x) with
 | true =>
  rw [hb] at hcf
  push_cast [iO,tN]
  repeat' (first |  ((refine plc [0,1,2,3,4,5] (hcf) ?_ ?_;push_cast [iO,tN];rintro r os ⟨rfl,rfl⟩;push_cast [iO,tN]))  | ((first|refine pG ?_|refine pQ ?_|refine pU ?_);push_cast [iO,tN])|(refine pif (fun h=>?_) (fun h=>?_)<;>first|exact pN h|push_cast [iO,tN]))
  (refine retK_of [0,1,2,3,4] ?_;push_cast [iO,tN])
 | false =>
  rw [hb] at hcf
  push_cast [iO,tN]
  repeat' (first |  ((refine plc [0,1,2,3,4,5] (hcf) ?_ ?_;push_cast [iO,tN];rintro r os ⟨rfl,rfl⟩;push_cast [iO,tN]))|((refine plc [] (hcw) ?_ ?_;push_cast [iO,tN];rintro r os ⟨rfl,rfl⟩;push_cast [iO,tN]))  | ((first|refine pG ?_|refine pQ ?_|refine pU ?_);push_cast [iO,tN])|(refine pif (fun h=>?_) (fun h=>?_)<;>first|exact pN h|push_cast [iO,tN]))
  (refine retK_of [0,1,2,3,4] ?_;push_cast [iO,tN])
set_option maxHeartbeats 8000000 in
theorem unloads_pure (c:Cfg) (loaded W:List ByteArray) (hS:Small c.modules) (hl:loaded.length≤1000) (hW:W.length≤1000000) :
  PCalls Tryz.prog 36 [.agg c.e,.c (.sl 1 (loaded.map strD)),.c (.sl 1 (W.map strD))] [] fun r os=>r = .two (.c (.sl 1 (((unlM c.modules W loaded).1).map strD))) (.c (.sl 1 (((unlM c.modules W loaded).2).map strD)))∧os=[]:=by
 have hML:=hS.len
 have hnl:∀ x,(needsOf c.modules x).length≤1000000000:=fun x=>by have:=hS.needsOf x;omega
 have hidx:=fun st (hst:st.length≤1000000)=>indexFunc_pure st (by omega) 60 [3,2,4] (unlOs c.modules W st).tail (freeV c.modules W st) ⟨by kernel_rfl,fun x _=>unl1_pure c.modules W st x hnl (by omega) hst⟩
 unfold unlOs at hidx
 simp only [List.tail_cons] at hidx
 refine pcalls_of Tryz.func36 rfl (by simp [Tryz.ntmps36]) ?_
 rw [Tryz.ntmps36,Tryz.results36]
 push_cast [iO,tN]
 have cB:CutB 14 [16,17,18]:=trivial
 repeat' (first|((first|refine pC ?_|refine pQC ?_|refine pU ?_);push_cast [iO,tN])|(refine pif (fun h=>?_) (fun h=>?_)<;>first|exact pN h|push_cast [iO,tN]))
 (apply pwp_loop3 (α:=Nat) 14 [16,17,18] (fun k=>[(18,.c (.v (.int .i64 k)))]) (fun k=>[(2,.map none false (needsE (c.modules.take k)))]) (fun k=>k≤c.modules.length) (fun k=>c.modules.length - k) (0);(focus ((try push_cast [iO,tN]);rfl));(focus exact (by omega));(focus ((refine weak_fg ?_;try push_cast [iO,tN]);(try (rfl)))))
 intro k hk
 push_cast [iO,tN]
 by_cases hlt:k < c.modules.length
 ·have hput:=mput_needs (c.modules.getD k default) (c.modules.take k) (take_names hS.nodup hlt)
  rw [getD_lt c.modules hlt,← List.take_succ_eq_append_getElem hlt,← getD_lt c.modules hlt] at hput
  repeat' (first|((first|refine pC ?_|refine pQC ?_|refine pU ?_);push_cast [iO,tN,hput])|(refine pif (fun h=>?_) (fun h=>?_)<;>first|exact pN h|push_cast [iO,tN,hput]))
  exact ⟨k+1,by omega,by (refine weak_fg ?_;push_cast [iO,tN]),by omega⟩
 have htk:c.modules.take k=c.modules:=List.take_of_length_le (by omega)
 rw [htk]
 repeat' (first |  ((refine plc [] (clone_pure loaded (by omega)) ?_ ?_;push_cast [iO,tN];rintro r os ⟨rfl,rfl⟩;push_cast [iO,tN]))|((refine plc [4] (sort2_pure loaded (by omega)) ?_ ?_;push_cast [iO,tN];rintro r os ⟨S0,⟨hS1,hS2⟩,rfl,rfl⟩;push_cast [iO,tN]))  | ((first|refine pC ?_|refine pQC ?_|refine pU ?_);push_cast [iO,tN])|(refine pif (fun h=>?_) (fun h=>?_)<;>first|exact pN h|push_cast [iO,tN]))
 have hcp:=compact2_pure S0 (by omega)
 rw [hS1,hS2] at hcp
 have hal:=(ascOf_spec loaded).2.2
 have hasc:=(ascOf_spec loaded).1
 unfold unlM
 obtain ⟨R,hRR⟩:∃ R,ascOf loaded=R:=⟨_,rfl⟩
 rw [hRR] at hcp hal hasc ⊢
 repeat' (first |  ((refine plc [4] (hcp) ?_ ?_;push_cast [iO,tN];rintro r os ⟨m2,rfl,rfl⟩;push_cast [iO,tN]))  | ((first|refine pC ?_|refine pQC ?_|refine pU ?_);push_cast [iO,tN])|(refine pif (fun h=>?_) (fun h=>?_)<;>first|exact pN h|push_cast [iO,tN]))
 have e3:(R.map strD++m2.map strD).take R.length=R.map strD:=List.take_left' (by simp)
 refine pwp_weak (weak_trim 4 R.length rfl) ?_
 push_cast [iO,tN,e3]
 refine pwp_weak (weak_adopt 12 9 1 (by omega) (by push_cast [iO,tN])) ?_
 push_cast [iO,tN]
 (apply pwp_loop3 (α:=List ByteArray × List ByteArray) 14 [16,17,18] (fun x=>[(12,.c (.own 6 (x.1.length)))]) (fun x=>[(4,.arr 9 1 (x.2.map strD)),(5,.box 29 [.own 4 x.2.length]),(6,.arr 9 1 (x.1.map strD))]) (fun x=>UInv c.modules W R x.1 x.2) (fun x=>x.2.length) (([],R));(focus ((try push_cast [iO,tN]);rfl));(focus exact UInv.start hasc);(focus ((refine weak_fg ?_;try push_cast [iO,tN]))))
 rintro ⟨gone,st⟩ hI
 have hlen:=hI.len
 simp only at hI hlen ⊢
 push_cast [iO,tN]
 have hi:=hidx st (by omega)
 have e4:=List.take_of_length_le (l:=gone.map strD) (i:=gone.length) (by simp)
 have e5:=List.take_of_length_le (l:=st.map strD) (i:=st.length) (by simp)
 rcases opt_cases (st.find? (freeV c.modules W st)) with hf|⟨b,hf⟩
 ·have hx:=hi.mono (R':=fun r os=>r = .c (.v (.int .i64 (-1)))∧os=[.arr 9 1 (st.map strD),.map none false (needsE c.modules),.box 114 [.mp 1],.box 29 [.own 0 st.length],.box 29 [.sl 1 (W.map strD)]]) (by rintro r os ⟨k,hk,rfl,rfl⟩;rw [idxQ_none hk hf];exact ⟨rfl,rfl⟩)
  have hfin:=hI.stop hf
  have hR1:(unlF c.modules W R.length R).1=gone:=by rw [hfin]
  have hR2:(unlF c.modules W R.length R).2=st:=by rw [hfin]
  repeat' (first |  (refine pl_call2 false [4,2,3,5,1] rfl rfl (by kernel_rfl) hx ?_ nofun ?_;push_cast [iO,tN];rintro r os ⟨rfl,rfl⟩;refine pl_weak (weak_frz 4 (by omega)) ?_;refine pl_weak (weak_frz 6 (by omega)) ?_;push_cast [iO,tN,e4,e5];refine pl_of_pops ?_;push_cast [iO,tN])  | ((first|refine pC ?_|refine pQC ?_|refine pU ?_);push_cast [iO,tN])|(refine pif (fun h=>?_) (fun h=>?_)<;>first|exact pN h|push_cast [iO,tN]))
  (refine retK_of [] ?_;push_cast [iO,tN,hR1,hR2])
 ·have hx:=hi.mono (R':=fun r os=>∃ i:Nat,(i < st.length∧st.getD i default=b)∧r = .c (.v (.int .i64 i))∧os=[.arr 9 1 (st.map strD),.map none false (needsE c.modules),.box 114 [.mp 1],.box 29 [.own 0 st.length],.box 29 [.sl 1 (W.map strD)]]) (by rintro r os ⟨k,hk,rfl,rfl⟩;obtain ⟨i,h1,rfl⟩:=idxQ_some hk hf;exact ⟨i,h1,rfl,rfl⟩)
  repeat' (first |  ((refine plc [4,2,3,5,1] (hx) ?_ ?_;push_cast [iO,tN];rintro r os ⟨i,⟨hi1,hi2⟩,rfl,rfl⟩;push_cast [iO,tN]))  | ((first|refine pC ?_|refine pQC ?_|refine pU ?_);push_cast [iO,tN])|(refine pif (fun h=>?_) (fun h=>?_)<;>first|exact pN h|push_cast [iO,tN]))
  repeat' (first |  ((refine plc [4] (delete_pure st i hi1 (by omega)) ?_ ?_;push_cast [iO,tN];rintro r os ⟨rfl,rfl⟩;push_cast [iO,tN]))  | ((first|refine pC ?_|refine pQC ?_|refine pU ?_);push_cast [iO,tN])|(refine pif (fun h=>?_) (fun h=>?_)<;>first|exact pN h|push_cast [iO,tN]))
  have hst:=hI.step hf
  have hfl:=filter_len (b:=b) (asc_nodup hI.asc) (by rw [← hi2,getD_lt st hi1];exact List.getElem_mem _)
  have hfr:(st.take i).map strD++(st.drop (i+1)).map strD=(st.filter fun x=>decide (x≠b)).map strD:=by rw [← List.map_append,del_eq (asc_nodup hI.asc) hi1,hi2]
  obtain ⟨R',hR'⟩:∃ R',(st.filter fun x=>decide (x≠b))=R':=⟨_,rfl⟩
  rw [hR'] at hst hfl hfr
  have e6:st.length - 1=R'.length:=by omega
  have e7:((st.take i).map strD++((st.drop (i+1)).map strD++[[D.v (.string ⟨#[]⟩)]])).take (st.length - 1)=R'.map strD:=by rw [← List.append_assoc,hfr];exact List.take_left' (by rw [List.length_map];omega)
  rw [e6] at e7
  exact ⟨(gone++[b],R'),hst,Weak.trans (weak_trim 4 (st.length - 1) rfl) (by (refine weak_fg ?_;push_cast [iO,tN,e6,e7,hi2])),by simp only;omega⟩
end Go.Proofs.YtmjffgienmcabaaGreatDoor
