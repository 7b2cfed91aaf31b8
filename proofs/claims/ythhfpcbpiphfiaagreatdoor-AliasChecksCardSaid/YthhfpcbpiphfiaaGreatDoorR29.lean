/- What the program computes, and the plain laws of it, part 29. -/
import Derived.WideKeyEntry
import Derived.Test.YthhfpcbpiphfiaaGreatDoorR28
namespace Go.Proofs.YthhfpcbpiphfiaaGreatDoor
open Go.RowKit
open IntWalk renaming iteOmega → iO, toNatUp → tN
set_option linter.unusedVariables false
set_option linter.unusedSimpArgs false
theorem run_append_zeroB {P:Program} (w:World) (t ty e:TypeId) (i:TypeInfo) (ht:P.underlying t=some (.slice e)) (hi:P.info? e=some i) (A B:Option Addr) (n cap c:Nat) (hn:n≤cap) (hB:B=none → n=0) :
  (Builtin.append_ #[t,t] ty #[.slice B n cap,.slice A 0 c]).run P w = .ok (.slice B n cap) w:=by
 cases A<;>cases B
 ·have:=hB rfl
  subst this
  simp [Builtin.append_,run_underlying ht,sizeOf,typeInfo,hi,Builtin.lenOf,Builtin.firstCells,storeCells]
 ·simp [Builtin.append_,run_underlying ht,sizeOf,typeInfo,hi,Builtin.lenOf,Builtin.firstCells,hn,storeCells]
 ·have:=hB rfl
  subst this
  simp [Builtin.append_,run_underlying ht,sizeOf,typeInfo,hi,Builtin.lenOf,Builtin.firstCells,loadCells,loadCellsFrom,storeCells]
 ·simp [Builtin.append_,run_underlying ht,sizeOf,typeInfo,hi,Builtin.lenOf,Builtin.firstCells,hn,loadCells,loadCellsFrom,storeCells]
section
variable {P:Program} {N p:Nat} {ops:Array Oper} {rest:List Oper} {o:Oper} {s:S} {K:S → Prop}
end
end Go.Proofs.YthhfpcbpiphfiaaGreatDoor
namespace Go.Proofs.YthhfpcbpiphfiaaGreatDoor
attribute [local irreducible] PL QL PWPr PCalls Weak RetK Kontr PA
open Go.RowKit
open IntWalk renaming iteOmega → iO, toNatUp → tN
set_option linter.unusedVariables false
set_option linter.unusedSimpArgs false
set_option maxRecDepth 20000
section
variable {P:Program} {N p:Nat} {ops:Array Oper} {rest:List Oper} {o:Oper} {s:S} {K:S → Prop}
theorem pl_appnilO {t e:TypeId} {sz by' k n:Nat} {x z:Operand} (ho:o.op = .call { callee:=.builtin .append,args := #[x,z],argTypes := #[t,t] }) (hg:gd ops s o.guard=some true) (hx:s.ev x=some (.c (.own k n))) (hys:srcRows s.o sz (s.ev z)=some []) (hel:elOf P t=some (e,sz)) (hby:bytOf P e=some by') (hsz:0 < sz) (hz:(zerOf P e).map List.length=some sz) (hd:dstOk N o.dst)
  (hK:PL P N p ops rest (s.put o.dst (.c (.own k n))) K):PL P N p ops (o :: rest) s K:=by
 refine pl_same (q:=.c (.own k n)) hg (fun Γ a w hI=>?_) hd hK
 obtain ⟨hT,i,hu,hi⟩:=slT_of hel hby hsz hz
 obtain ⟨hyr,A,c,news,hzv,hrd,hnx⟩:=src_ok hI.m hys (fun q hq=>S.ev_ok hq hI)
 have hx1:=S.ev_ok hx hI
 have hx0:=hx1
 obtain ⟨hk,hr⟩:=hx0
 refine ⟨a.eval x,hx1,fun w' hS=>?_⟩
 have hzv2:a.eval z = .slice A 0 c:=hzv
 rcases hr with ⟨h0,⟨A2,hv⟩,rfl⟩|⟨h0,hv,hn⟩
 ·have h0:=run_append_zeroB (P:=P) w' t o.type e i hu hi A A2 0 0 c (Nat.le_refl _) (fun _=>rfl)
  simp only [execOp,ho,resolve,invoke,builtin,Sem.run_bind,Sem.run_pure,Result.andThen_ok,List.map_toArray,List.map_cons,List.map_nil,hv,hzv2,h0]
 ·have h0:=run_append_zeroB (P:=P) w' t o.type e i hu hi A (some ⟨Γ.β k,0,none⟩) n (Γ.cap k) c hn nofun
  simp only [execOp,ho,resolve,invoke,builtin,Sem.run_bind,Sem.run_pure,Result.andThen_ok,List.map_toArray,List.map_cons,List.map_nil,hv,hzv2,h0]
end
def SeenOk (p q:Alts) (all:List Pr) (seen:List (MK × List D)):Prop:=(∀ e ∈ seen,GoodK 4 e.1)∧∀ x,mget seen x.k=if x ∈ all then some [.v (.bool true)] else none
theorem SeenOk.nil (p q:Alts):SeenOk p q [] []:=⟨by simp,fun x=>by simp [mget]⟩
theorem mget_mput {k k':MK} {r:List D}:∀ {es:List (MK × List D)},mget (mput es k r) k'=if k=k' then some r else mget es k'
 | []=>by simp [mput,mget]
 | (a,b) :: es=>by
  rw [mput]
  split
  ·rename_i e
   subst e
   rw [mget,mget]
   split<;>rfl
  ·rename_i hne
   rw [mget,mget,mget_mput]
   split
   ·rename_i e
    subst e
    rw [if_neg (fun h=>hne h.symm)]
   ·rfl
theorem SeenOk.add {p q:Alts} {all:List Pr} {seen:List (MK × List D)} {x:Pr} (h:SeenOk p q all seen) (hk:GoodK 4 x.k):SeenOk p q (all++[x]) (mput seen x.k [.v (.bool true)]):=by
 refine ⟨GoodK.mput h.1 hk,fun y=>?_⟩
 rw [mget_mput,h.2 y]
 by_cases e:x.k=y.k
 ·rw [if_pos e,if_pos (by rw [prk_inj e];simp)]
 ·rw [if_neg e]
  have:y ∈ all++[x] ↔ y ∈ all:=by
   rw [List.mem_append,List.mem_singleton]
   exact ⟨fun h=>h.resolve_right fun h2=>e (by rw [h2]),.inl⟩
  by_cases hy:y ∈ all
  ·rw [if_pos hy,if_pos (this.2 hy)]
  ·rw [if_neg hy,if_neg fun h=>hy (this.1 h)]
def srA (p q:Alts) (es:List (MK × List D)) (J:List (List D)):List Ob:=[.box 77 [.sl 1 (altsD p),.sl 1 (altsD q),.mp 1],.map (some (.wide 4)) false es,.arr 82 4 J]
attribute [push_cast] srA
structure SpSt where
 w:Bool
 f:Nat
 l:List Pr
 all:List Pr
 es:List (MK × List D)
 seen:List (MK × List D)
 J:List (List D)
def spK:Bool → Nat
 | false=>2
 | true=>5
def spA:Bool → List (List D) → List (List D) → List (List D)
 | false,a,_=>a
 | true,_,b=>b
attribute [push_cast] spK spA
set_option maxHeartbeats 8000000 in
theorem gspread_pure (p q:Alts) (hp:GoodA p) (hq:GoodA q) (n:Int) (l:List Pr) (es:List (MK × List D)) (hl:∀ x ∈ l,PrOk p q x) (hll:l.length≤1000000000000) (hm:MemoOk p q es) :
  PCalls Tryz.prog 31 [.c (.ptr 0 0),.c (.own 2 (l.length)),.c (.v (.int .i64 n))] (srA p q es (l.map Pr.d)) fun r os =>
   ∃ (fs:List (MK × List D)) (J:List (List D)),MemoOk p q fs∧r = .c (.own 3 ((spreadF p q n (fuelV l) l []).length))∧os=srO p q fs++[.arr 82 4 J,.arr 82 4 ((spreadF p q n (fuelV l) l []).map Pr.d)]:=by
 obtain ⟨R,hR⟩:∃ R,spreadF p q n (fuelV l) l []=R:=⟨_,rfl⟩
 have h0:SpOk p q l []:=⟨hl,by simp,List.nodup_nil⟩
 have hm0:spM l []=l.length+3000000000000:=by unfold spM;simp only [List.length_nil]
 rw [hR]
 refine pcalls_of Tryz.func31 rfl (by simp [Tryz.ntmps31]) ?_
 rw [Tryz.ntmps31,Tryz.results31]
 push_cast [iO,tN]
 have cB:CutB 10 [13,34]:=trivial
 repeat' (first |  (refine pl_mkW (n:=4) false rfl (by push_cast [iO,tN]) (by push_cast [iO,tN]) ?_;push_cast [iO,tN];refine pl_of_pops ?_;push_cast [iO,tN])  | ((first|refine pC ?_|refine pQC ?_|refine pU ?_);push_cast [iO,tN])|(refine pif (fun h=>?_) (fun h=>?_)<;>first|exact pN h|push_cast [iO,tN]))
 refine pwp_weak (weak_adopt 8 82 4 (by omega) (by push_cast [iO,tN])) ?_
 push_cast [iO,tN]
 refine pwp_weak (weak_adopt 6 82 4 (by omega) (by push_cast [iO,tN])) ?_
 push_cast [iO,tN]
 refine pwp_weak (s':=⟨[(8,.c (.own 4 (0))),(7,.c (.mp 3)),(0,.c (.ptr 0 0)),(1,.c (.own 2 (l.length))),(2,.c (.v (.int .i64 n)))],[.box 77 [.sl 1 (altsD p),.sl 1 (altsD q),.mp 1],.map (some (.wide 4)) false es,.arr 82 4 (l.map Pr.d),.map (some (.wide 4)) false [],.arr 82 4 [],.arr 82 4 []]⟩) (by (refine weak_fg ?_;push_cast [iO,tN])) ?_
 push_cast [iO,tN]
 (apply pwp_loop3 (α:=SpSt) 10 [13,34] (fun z=>[(1,.c (.own (spK z.w) z.l.length)),(8,.c (.own 4 z.all.length))]) (fun z=>[(1,.map (some (.wide 4)) false z.es),(2,.arr 82 4 (spA z.w (z.l.map Pr.d) z.J)),(3,.map (some (.wide 4)) false z.seen),(4,.arr 82 4 (z.all.map Pr.d)),(5,.arr 82 4 (spA z.w [] (z.l.map Pr.d)))]) (fun z=>SpOk p q z.l z.all∧spM z.l z.all < z.f∧spM z.l z.all≤4000000000000∧spreadF p q n z.f z.l z.all=R∧MemoOk p q z.es∧SeenOk p q z.all z.seen) (fun z=>z.f) (⟨false,fuelV l,l,[],es,[],[]⟩);(focus ((try push_cast [iO,tN]);rfl));(focus exact ⟨h0,by show spM l [] < fuelV l;unfold fuelV;omega,by show spM l []≤_;omega,hR,hm,SeenOk.nil p q⟩);(focus ((refine weak_fg ?_;try push_cast [iO,tN]))))
 rintro ⟨w,f,l1,all,fs,seen,J⟩ ⟨i1,i2,i3,i4,i5,i6⟩
 simp only at i1 i2 i3 i4 i5 i6 ⊢
 have hfew:=i1.few hp.sm hq.sm
 rcases List.eq_nil_or_concat l1 with h00|⟨l',x,h00⟩
 ·subst h00
  rw [spreadF_nil] at i4
  subst i4
  cases w
  all_goals
   push_cast [iO,tN]
   repeat' (first|((first|refine pC ?_|refine pQC ?_|refine pU ?_);push_cast [iO,tN])|(refine pif (fun h=>?_) (fun h=>?_)<;>first|exact pN h|push_cast [iO,tN]))
   (refine retK_of [0,1,2,4] ?_;push_cast [iO,tN])
   exact ⟨_,_,leP_refl _,leOs_refl _,fs,_,i5,rfl,rfl⟩
 ·rw [List.concat_eq_append] at h00
  subst h00
  have hxo:=i1.hl x (by simp)
  have hgk:=prk_good hxo hp.sm hq.sm
  have e1:=getD_snoc (l'.map Pr.d) x.d []
  have e2:=List.take_left' (l₁:=l'.map Pr.d) (l₂:=[x.d]) (i:=l'.length) (by simp)
  simp only [List.length_map,Pr.d] at e1 e2
  have hsl:=i6.2 x
  have hll':(l'++[x]).length≤4000000000000:=by unfold spM at i3;omega
  rw [List.length_append,List.length_singleton] at hll'
  cases f with
  | zero=>exact absurd i2 (Nat.not_lt_zero _)
  | succ f =>
  rw [spreadF_step] at i4
  have hdr:=i1.drop
  have hsd:=spM_drop (l:=l') (all:=all) (x:=x)
  have hC:=gcost_pure p q hp hq _ x fs (Nat.lt_succ_self _) hxo i5
  cases w with
  | false =>
   by_cases hin:x ∈ all
   ·rw [if_pos hin] at hsl
    rw [if_pos (.inl hin)] at i4
    repeat' (first|(refine pl_lookW (kt:=82) (e:=4) (n:=4) (k:=3) (ag:=false) (ns:=[(x.pa:Int),x.pi,x.qa,x.qi]) (es:=seen) (z:=.c (.v (.bool false))) (q:=.c (.v (.bool true))) prW rfl (by push_cast [iO,tN,e1,e2]) (by push_cast [iO,tN,e1,e2]) Tryz.underlying118 rfl rfl rfl hgk i6.1 (by kernel_rfl) (by rw [show MK.t [(x.pa:Int),x.pi,x.qa,x.qi]=x.k from rfl,hsl];rfl) ?_;push_cast [iO,tN,e1,e2];refine pl_of_pops ?_;push_cast [iO,tN,e1,e2])|((first|refine pC ?_|refine pQC ?_|refine pU ?_);push_cast [iO,tN,e1,e2])|(refine pif (fun h=>?_) (fun h=>?_)<;>first|exact pN h|push_cast [iO,tN,e1,e2]))
    exact ⟨⟨false,f,l',all,fs,seen,J⟩,⟨hdr,by simp only;omega,by simp only;omega,i4,i5,i6⟩,Weak.trans (weak_trim 2 l'.length rfl) (by (refine weak_fg ?_;push_cast [iO,tN,e2])),by simp only;omega⟩
   ·rw [if_neg hin] at hsl
    by_cases hcn:costV p q x=n
    ·rw [if_neg (by rintro (h|h);exact hin h;exact h hcn)] at i4
     rw [hcn] at hC
     have hadd:=i1.add hin
     have hsa:=spM_add i1 hin hp.sm hq.sm
     have hse:=i6.add hgk
     have hfew2:=hadd.few hp.sm hq.sm
     obtain ⟨ys,hys⟩:∃ ys,skipsV p q x=ys:=⟨_,rfl⟩
     have hyl:=skipsV_len p q x
     rw [hys] at i4 hadd hsa hyl
     by_cases hy0:ys=[]
     ·subst hy0
      rw [List.append_nil] at i4 hadd hsa
      have hsk:=fun es'=>gskips_pure p q es' x hxo hp.ok hq.ok
      rw [hys] at hsk
      repeat' (first|(refine pl_lookW (kt:=82) (e:=4) (n:=4) (k:=3) (ag:=false) (ns:=[(x.pa:Int),x.pi,x.qa,x.qi]) (es:=seen) (z:=.c (.v (.bool false))) (q:=.c (.v (.bool false))) prW rfl (by push_cast [iO,tN,e1,e2]) (by push_cast [iO,tN,e1,e2]) Tryz.underlying118 rfl rfl rfl hgk i6.1 (by kernel_rfl) (by rw [show MK.t [(x.pa:Int),x.pi,x.qa,x.qi]=x.k from rfl,hsl];rfl) ?_;push_cast [iO,tN,e1,e2];refine pl_of_pops ?_;push_cast [iO,tN,e1,e2])|((refine plc [0,1] (hC) ?_ ?_;push_cast [iO,tN,e1,e2];rintro r os ⟨fs,i5,rfl,rfl⟩;push_cast [iO,tN,e1,e2]))|(refine pl_updW (kt:=82) (e:=4) (n:=4) (k:=3) (ag:=false) (ns:=[(x.pa:Int),x.pi,x.qa,x.qi]) (es:=seen) (row:=[.v (.bool true)]) prW rfl (by push_cast [iO,tN,e1,e2]) (by push_cast [iO,tN,e1,e2]) Tryz.underlying118 rfl rfl rfl hgk i6.1 rfl ?_;refine pl_of_pops ?_;push_cast [iO,tN,e1,e2])|((refine plc [0,1] (hsk fs) ?_ ?_;push_cast [iO,tN,e1,e2];rintro r os ⟨rfl,rfl⟩;push_cast [iO,tN,e1,e2]))|(refine pl_appnilO (e:=82) (sz:=4) (by':=32) (k:=2) (n:=l'.length) rfl (by push_cast [iO,tN,e1,e2]) (by push_cast [iO,tN,e1,e2]) (by push_cast [iO,tN,e1,e2]) (by push_cast [iO,tN,e1,e2]) (by push_cast [iO,tN,e1,e2]) (by omega) (by push_cast [iO,tN,e1,e2]) (by push_cast [iO,tN,e1,e2]) ?_;refine pl_of_pops ?_;push_cast [iO,tN,e1,e2])|((first|refine pC ?_|refine pQC ?_|refine pU ?_);push_cast [iO,tN,e1,e2])|(refine pif (fun h=>?_) (fun h=>?_)<;>first|exact pN h|push_cast [iO,tN,e1,e2]))
      exact ⟨⟨false,f,l',all++[x],fs,mput seen x.k [.v (.bool true)],J⟩,⟨hadd,by simp only;omega,by simp only;omega,i4,i5,hse⟩,Weak.trans (weak_trim 2 l'.length rfl) (by (refine weak_fg ?_;push_cast [iO,tN,e2,Pr.k])),by simp only;omega⟩
     ·have hy1:0 < ys.length:=List.length_pos_iff.2 hy0
      have hsk:=fun es'=>gskips_pure p q es' x hxo hp.ok hq.ok
      rw [hys] at hsk
      repeat' (first|(refine pl_lookW (kt:=82) (e:=4) (n:=4) (k:=3) (ag:=false) (ns:=[(x.pa:Int),x.pi,x.qa,x.qi]) (es:=seen) (z:=.c (.v (.bool false))) (q:=.c (.v (.bool false))) prW rfl (by push_cast [iO,tN,e1,e2]) (by push_cast [iO,tN,e1,e2]) Tryz.underlying118 rfl rfl rfl hgk i6.1 (by kernel_rfl) (by rw [show MK.t [(x.pa:Int),x.pi,x.qa,x.qi]=x.k from rfl,hsl];rfl) ?_;push_cast [iO,tN,e1,e2];refine pl_of_pops ?_;push_cast [iO,tN,e1,e2])|((refine plc [0,1] (hC) ?_ ?_;push_cast [iO,tN,e1,e2];rintro r os ⟨fs,i5,rfl,rfl⟩;push_cast [iO,tN,e1,e2]))|(refine pl_updW (kt:=82) (e:=4) (n:=4) (k:=3) (ag:=false) (ns:=[(x.pa:Int),x.pi,x.qa,x.qi]) (es:=seen) (row:=[.v (.bool true)]) prW rfl (by push_cast [iO,tN,e1,e2]) (by push_cast [iO,tN,e1,e2]) Tryz.underlying118 rfl rfl rfl hgk i6.1 rfl ?_;refine pl_of_pops ?_;push_cast [iO,tN,e1,e2])|((refine plc [0,1] (hsk fs) ?_ ?_;push_cast [iO,tN,e1,e2];rintro r os ⟨rfl,rfl⟩;push_cast [iO,tN,e1,e2]))|(refine pl_weak (weak_trim 2 l'.length rfl) ?_;push_cast [iO,tN,e2];refine pl_app2 (e:=82) (sz:=4) (by':=32) (rows:=l'.map Pr.d) (ys:=ys.map Pr.d) 2 rfl (by push_cast [iO,tN,e1,e2]) (by push_cast [iO,tN,e1,e2]) (by push_cast [iO,tN,e1,e2]) (by push_cast [iO,tN,e1,e2]) (by omega) (by push_cast [iO,tN,e1,e2]) (by push_cast [iO,tN,e1,e2]) (by push_cast [iO,tN,e1,e2]) (by push_cast [iO,tN,e1,e2]) (by simp;omega) (by push_cast [iO,tN,e1,e2];omega) (by push_cast [iO,tN,e1,e2];omega) ?_ ?_<;>(refine pl_of_pops ?_;push_cast [iO,tN,e1,e2]))|((first|refine pC ?_|refine pQC ?_|refine pU ?_);push_cast [iO,tN,e1,e2])|(refine pif (fun h=>?_) (fun h=>?_)<;>first|exact pN h|push_cast [iO,tN,e1,e2]))
      ·exact ⟨⟨false,f,l'++ys,all++[x],fs,mput seen x.k [.v (.bool true)],J⟩,⟨hadd,by simp only;omega,by simp only;omega,i4,i5,hse⟩,by (refine weak_fg ?_;push_cast [iO,tN,Pr.k]),by simp only;omega⟩
      ·exact ⟨⟨true,f,l'++ys,all++[x],fs,mput seen x.k [.v (.bool true)],l'.map Pr.d⟩,⟨hadd,by simp only;omega,by simp only;omega,i4,i5,hse⟩,by (refine weak_keep true [0,1,2,3,4,7] ?_;push_cast [iO,tN,Pr.k]),by simp only;omega⟩
    ·rw [if_pos (.inr hcn)] at i4
     repeat' (first|(refine pl_lookW (kt:=82) (e:=4) (n:=4) (k:=3) (ag:=false) (ns:=[(x.pa:Int),x.pi,x.qa,x.qi]) (es:=seen) (z:=.c (.v (.bool false))) (q:=.c (.v (.bool false))) prW rfl (by push_cast [iO,tN,e1,e2,hcn]) (by push_cast [iO,tN,e1,e2,hcn]) Tryz.underlying118 rfl rfl rfl hgk i6.1 (by kernel_rfl) (by rw [show MK.t [(x.pa:Int),x.pi,x.qa,x.qi]=x.k from rfl,hsl];rfl) ?_;push_cast [iO,tN,e1,e2,hcn];refine pl_of_pops ?_;push_cast [iO,tN,e1,e2,hcn])|((refine plc [0,1] (hC) ?_ ?_;push_cast [iO,tN,e1,e2,hcn];rintro r os ⟨fs,i5,rfl,rfl⟩;push_cast [iO,tN,e1,e2,hcn]))|((first|refine pC ?_|refine pQC ?_|refine pU ?_);push_cast [iO,tN,e1,e2,hcn])|(refine pif (fun h=>?_) (fun h=>?_)<;>first|exact pN h|push_cast [iO,tN,e1,e2,hcn]))
     exact ⟨⟨false,f,l',all,fs,seen,J⟩,⟨hdr,by simp only;omega,by simp only;omega,i4,i5,i6⟩,Weak.trans (weak_trim 2 l'.length rfl) (by (refine weak_fg ?_;push_cast [iO,tN,e2])),by simp only;omega⟩
  | true =>
   by_cases hin:x ∈ all
   ·rw [if_pos hin] at hsl
    rw [if_pos (.inl hin)] at i4
    repeat' (first|(refine pl_lookW (kt:=82) (e:=4) (n:=4) (k:=3) (ag:=false) (ns:=[(x.pa:Int),x.pi,x.qa,x.qi]) (es:=seen) (z:=.c (.v (.bool false))) (q:=.c (.v (.bool true))) prW rfl (by push_cast [iO,tN,e1,e2]) (by push_cast [iO,tN,e1,e2]) Tryz.underlying118 rfl rfl rfl hgk i6.1 (by kernel_rfl) (by rw [show MK.t [(x.pa:Int),x.pi,x.qa,x.qi]=x.k from rfl,hsl];rfl) ?_;push_cast [iO,tN,e1,e2];refine pl_of_pops ?_;push_cast [iO,tN,e1,e2])|((first|refine pC ?_|refine pQC ?_|refine pU ?_);push_cast [iO,tN,e1,e2])|(refine pif (fun h=>?_) (fun h=>?_)<;>first|exact pN h|push_cast [iO,tN,e1,e2]))
    exact ⟨⟨true,f,l',all,fs,seen,J⟩,⟨hdr,by simp only;omega,by simp only;omega,i4,i5,i6⟩,Weak.trans (weak_trim 5 l'.length rfl) (by (refine weak_fg ?_;push_cast [iO,tN,e2])),by simp only;omega⟩
   ·rw [if_neg hin] at hsl
    by_cases hcn:costV p q x=n
    ·rw [if_neg (by rintro (h|h);exact hin h;exact h hcn)] at i4
     rw [hcn] at hC
     have hadd:=i1.add hin
     have hsa:=spM_add i1 hin hp.sm hq.sm
     have hse:=i6.add hgk
     have hfew2:=hadd.few hp.sm hq.sm
     obtain ⟨ys,hys⟩:∃ ys,skipsV p q x=ys:=⟨_,rfl⟩
     have hyl:=skipsV_len p q x
     rw [hys] at i4 hadd hsa hyl
     by_cases hy0:ys=[]
     ·subst hy0
      rw [List.append_nil] at i4 hadd hsa
      have hsk:=fun es'=>gskips_pure p q es' x hxo hp.ok hq.ok
      rw [hys] at hsk
      repeat' (first|(refine pl_lookW (kt:=82) (e:=4) (n:=4) (k:=3) (ag:=false) (ns:=[(x.pa:Int),x.pi,x.qa,x.qi]) (es:=seen) (z:=.c (.v (.bool false))) (q:=.c (.v (.bool false))) prW rfl (by push_cast [iO,tN,e1,e2]) (by push_cast [iO,tN,e1,e2]) Tryz.underlying118 rfl rfl rfl hgk i6.1 (by kernel_rfl) (by rw [show MK.t [(x.pa:Int),x.pi,x.qa,x.qi]=x.k from rfl,hsl];rfl) ?_;push_cast [iO,tN,e1,e2];refine pl_of_pops ?_;push_cast [iO,tN,e1,e2])|((refine plc [0,1] (hC) ?_ ?_;push_cast [iO,tN,e1,e2];rintro r os ⟨fs,i5,rfl,rfl⟩;push_cast [iO,tN,e1,e2]))|(refine pl_updW (kt:=82) (e:=4) (n:=4) (k:=3) (ag:=false) (ns:=[(x.pa:Int),x.pi,x.qa,x.qi]) (es:=seen) (row:=[.v (.bool true)]) prW rfl (by push_cast [iO,tN,e1,e2]) (by push_cast [iO,tN,e1,e2]) Tryz.underlying118 rfl rfl rfl hgk i6.1 rfl ?_;refine pl_of_pops ?_;push_cast [iO,tN,e1,e2])|((refine plc [0,1] (hsk fs) ?_ ?_;push_cast [iO,tN,e1,e2];rintro r os ⟨rfl,rfl⟩;push_cast [iO,tN,e1,e2]))|(refine pl_appnilO (e:=82) (sz:=4) (by':=32) (k:=5) (n:=l'.length) rfl (by push_cast [iO,tN,e1,e2]) (by push_cast [iO,tN,e1,e2]) (by push_cast [iO,tN,e1,e2]) (by push_cast [iO,tN,e1,e2]) (by push_cast [iO,tN,e1,e2]) (by omega) (by push_cast [iO,tN,e1,e2]) (by push_cast [iO,tN,e1,e2]) ?_;refine pl_of_pops ?_;push_cast [iO,tN,e1,e2])|((first|refine pC ?_|refine pQC ?_|refine pU ?_);push_cast [iO,tN,e1,e2])|(refine pif (fun h=>?_) (fun h=>?_)<;>first|exact pN h|push_cast [iO,tN,e1,e2]))
      exact ⟨⟨true,f,l',all++[x],fs,mput seen x.k [.v (.bool true)],J⟩,⟨hadd,by simp only;omega,by simp only;omega,i4,i5,hse⟩,by (refine weak_fg ?_;push_cast [iO,tN,Pr.k]),by simp only;omega⟩
     ·have hy1:0 < ys.length:=List.length_pos_iff.2 hy0
      have hsk:=fun es'=>gskips_pure p q es' x hxo hp.ok hq.ok
      rw [hys] at hsk
      repeat' (first|(refine pl_lookW (kt:=82) (e:=4) (n:=4) (k:=3) (ag:=false) (ns:=[(x.pa:Int),x.pi,x.qa,x.qi]) (es:=seen) (z:=.c (.v (.bool false))) (q:=.c (.v (.bool false))) prW rfl (by push_cast [iO,tN,e1,e2]) (by push_cast [iO,tN,e1,e2]) Tryz.underlying118 rfl rfl rfl hgk i6.1 (by kernel_rfl) (by rw [show MK.t [(x.pa:Int),x.pi,x.qa,x.qi]=x.k from rfl,hsl];rfl) ?_;push_cast [iO,tN,e1,e2];refine pl_of_pops ?_;push_cast [iO,tN,e1,e2])|((refine plc [0,1] (hC) ?_ ?_;push_cast [iO,tN,e1,e2];rintro r os ⟨fs,i5,rfl,rfl⟩;push_cast [iO,tN,e1,e2]))|(refine pl_updW (kt:=82) (e:=4) (n:=4) (k:=3) (ag:=false) (ns:=[(x.pa:Int),x.pi,x.qa,x.qi]) (es:=seen) (row:=[.v (.bool true)]) prW rfl (by push_cast [iO,tN,e1,e2]) (by push_cast [iO,tN,e1,e2]) Tryz.underlying118 rfl rfl rfl hgk i6.1 rfl ?_;refine pl_of_pops ?_;push_cast [iO,tN,e1,e2])|((refine plc [0,1] (hsk fs) ?_ ?_;push_cast [iO,tN,e1,e2];rintro r os ⟨rfl,rfl⟩;push_cast [iO,tN,e1,e2]))|(refine pl_weak (weak_trim 5 l'.length rfl) ?_;push_cast [iO,tN,e2];refine pl_app2 (e:=82) (sz:=4) (by':=32) (rows:=l'.map Pr.d) (ys:=ys.map Pr.d) 5 rfl (by push_cast [iO,tN,e1,e2]) (by push_cast [iO,tN,e1,e2]) (by push_cast [iO,tN,e1,e2]) (by push_cast [iO,tN,e1,e2]) (by omega) (by push_cast [iO,tN,e1,e2]) (by push_cast [iO,tN,e1,e2]) (by push_cast [iO,tN,e1,e2]) (by push_cast [iO,tN,e1,e2]) (by simp;omega) (by push_cast [iO,tN,e1,e2];omega) (by push_cast [iO,tN,e1,e2];omega) ?_ ?_<;>(refine pl_of_pops ?_;push_cast [iO,tN,e1,e2]))|((first|refine pC ?_|refine pQC ?_|refine pU ?_);push_cast [iO,tN,e1,e2])|(refine pif (fun h=>?_) (fun h=>?_)<;>first|exact pN h|push_cast [iO,tN,e1,e2]))
      exact ⟨⟨true,f,l'++ys,all++[x],fs,mput seen x.k [.v (.bool true)],J⟩,⟨hadd,by simp only;omega,by simp only;omega,i4,i5,hse⟩,by (refine weak_fg ?_;push_cast [iO,tN,Pr.k]),by simp only;omega⟩
    ·rw [if_pos (.inr hcn)] at i4
     repeat' (first|(refine pl_lookW (kt:=82) (e:=4) (n:=4) (k:=3) (ag:=false) (ns:=[(x.pa:Int),x.pi,x.qa,x.qi]) (es:=seen) (z:=.c (.v (.bool false))) (q:=.c (.v (.bool false))) prW rfl (by push_cast [iO,tN,e1,e2,hcn]) (by push_cast [iO,tN,e1,e2,hcn]) Tryz.underlying118 rfl rfl rfl hgk i6.1 (by kernel_rfl) (by rw [show MK.t [(x.pa:Int),x.pi,x.qa,x.qi]=x.k from rfl,hsl];rfl) ?_;push_cast [iO,tN,e1,e2,hcn];refine pl_of_pops ?_;push_cast [iO,tN,e1,e2,hcn])|((refine plc [0,1] (hC) ?_ ?_;push_cast [iO,tN,e1,e2,hcn];rintro r os ⟨fs,i5,rfl,rfl⟩;push_cast [iO,tN,e1,e2,hcn]))|((first|refine pC ?_|refine pQC ?_|refine pU ?_);push_cast [iO,tN,e1,e2,hcn])|(refine pif (fun h=>?_) (fun h=>?_)<;>first|exact pN h|push_cast [iO,tN,e1,e2,hcn]))
     exact ⟨⟨true,f,l',all,fs,seen,J⟩,⟨hdr,by simp only;omega,by simp only;omega,i4,i5,i6⟩,Weak.trans (weak_trim 5 l'.length rfl) (by (refine weak_fg ?_;push_cast [iO,tN,e2])),by simp only;omega⟩
set_option maxRecDepth 20000
theorem lowB_cases (s:List Bool) (m:Nat):(lowB s m=m∧∀ c,32≤c → c < m → s.getD c false=false)∨(lowB s m < m∧32≤lowB s m∧s.getD (lowB s m) false=true∧∀ c,32≤c → c < lowB s m → s.getD c false=false):=by
 unfold lowB
 cases h:(List.range m).find? fun c=>decide (32≤c) && s.getD c false with
 | none =>
  refine .inl ⟨rfl,fun c h1 h2=>?_⟩
  rw [List.find?_eq_none] at h
  have h3:=h c (List.mem_range.2 h2)
  rw [decide_eq_true h1,Bool.true_and] at h3
  exact Bool.eq_false_iff.2 h3
 | some b =>
  rw [List.find?_range_eq_some] at h
  obtain ⟨h1,h2,h3⟩:=h
  rw [Bool.and_eq_true,decide_eq_true_eq] at h1
  refine .inr ⟨List.mem_range.1 h2,h1.1,h1.2,fun c h4 h5=>?_⟩
  have h6:=h3 c h5
  rw [decide_eq_true h4,Bool.true_and] at h6
  simpa using h6
def lstJ (p q:Alts) (n:Int) (L:List Pr) (j:Nat):Nat × List Pr:=(L.take j).foldl (leastStep p q n) (127,[])
theorem lstJ_next {p q:Alts} {n:Int} {L:List Pr} {j:Nat} (h:j < L.length):lstJ p q n L (j+1)=leastStep p q n (lstJ p q n L j) (L.getD j default):=by
 unfold lstJ
 rw [List.take_succ_eq_append_getElem h,List.foldl_append,getD_lt L h]
 rfl
theorem leastStep_m (p q:Alts) (n:Int) (st:Nat × List Pr) (x:Pr):(leastStep p q n st x).1≤st.1∧(32≤st.1 → 32≤(leastStep p q n st x).1):=by
 unfold leastStep
 split
 ·exact ⟨Nat.le_refl _,id⟩
 ·split
  ·exact ⟨Nat.le_refl _,id⟩
  ·rename_i y s _ _
   have h:=lowB_le s st.1
   have h2:32≤st.1 → 32≤lowB s st.1:=fun h3=>by
    rcases lowB_cases s st.1 with ⟨e,_⟩|⟨_,e,_⟩
    ·omega
    ·exact e
   simp only
   split
   ·exact ⟨h,h2⟩
   ·exact ⟨h,h2⟩
theorem lstJ_m (p q:Alts) (n:Int) (L:List Pr):∀ j,j≤L.length → (lstJ p q n L j).1≤127∧32≤(lstJ p q n L j).1
 | 0,_=>by unfold lstJ;simp
 | j+1,h=>by
  rw [lstJ_next (by omega)]
  have h1:=lstJ_m p q n L j (by omega)
  have h2:=leastStep_m p q n (lstJ p q n L j) (L.getD j default)
  exact ⟨by omega,h2.2 h1.2⟩
theorem lstJ_few {p q:Alts} (n:Int) {L:List Pr} (hL:∀ x ∈ L,PrOk p q x) (j:Nat) (h:j≤L.length):(lstJ p q n L j).2.length≤j:=by
 have h1:=(leastGo_ok (n:=n) (L.take j) (127,[]) (fun x hx=>hL x (List.mem_of_mem_take hx)) (by simp)).2
 rw [List.length_take] at h1
 simp only [List.length_nil] at h1
 unfold lstJ
 omega
theorem anyB_both {p q:Alts} {x y:Pr} {s:List Bool} (h:stepV p q x=some (y,s)) (ha:anyB s=true):∃ c,32≤c∧c < 127∧s.getD c false=true:=by
 unfold stepV at h
 split at h
 ·rename_i e1 e2 _ _
  split at h
  ·cases h
  ·cases h
   unfold anyB at ha
   rw [List.any_eq_true] at ha
   obtain ⟨b,hb,hb2⟩:=ha
   unfold bothV at hb
   obtain ⟨c,hc,rfl⟩:=List.mem_map.1 hb
   rw [List.mem_range] at hc
   have h32:32≤c:=by
    rw [Bool.and_eq_true,decide_eq_true_eq] at hb2
    exact hb2.1
   refine ⟨c,h32,hc,?_⟩
   unfold bothV
   rw [List.getD_eq_getElem?_getD,List.getElem?_map,List.getElem?_range hc]
   exact hb2
 ·cases h
def lsM:Bool → Nat → Nat → Nat
 | false,m,_=>m
 | true,_,b=>b
def lsE:Bool → Nat → E
 | false,n=>.own 2 n
 | true,_=>.v (.slice none 0 0)
attribute [push_cast] lsM lsE
set_option maxHeartbeats 8000000 in
theorem gleast_pure (p q:Alts) (hp:GoodA p) (hq:GoodA q) (n:Int) (hn:0≤n∧n≤100000) (L:List Pr) (es:List (MK × List D)) (hL:∀ x ∈ L,PrOk p q x) (hLl:L.length≤1000000000000) (hm:MemoOk p q es) :
  PCalls Tryz.prog 30 [.c (.ptr 0 0),.c (.sl 4 (L.map Pr.d)),.c (.v (.int .i64 n))] (srO p q es) fun r os =>
   ∃ fs:List (MK × List D),MemoOk p q fs∧r = .two (.c (.v (.int .u8 ((leastV p q n L).1:Int)))) (.c (.own 2 ((leastV p q n L).2.length)))∧os=srO p q fs++[.arr 82 4 ((leastV p q n L).2.map Pr.d)]:=by
 have hend:leastV p q n L=lstJ p q n L L.length:=by unfold lstJ leastV;rw [List.take_length]
 rw [hend]
 refine pcalls_of Tryz.func30 rfl (by simp [Tryz.ntmps30]) ?_
 rw [Tryz.ntmps30,Tryz.results30]
 push_cast [-List.reduceReplicate,iO,tN]
 have cB:CutB 16 [16,17,18,19,38,41,46,50]:=trivial
 repeat' (first|((first|refine pC ?_|refine pQC ?_|refine pU ?_);push_cast [-List.reduceReplicate,iO,tN])|(refine pif (fun h=>?_) (fun h=>?_)<;>first|exact pN h|push_cast [-List.reduceReplicate,iO,tN]))
 refine pwp_weak (weak_adopt 9 82 4 (by omega) (by push_cast [-List.reduceReplicate,iO,tN])) ?_
 push_cast [-List.reduceReplicate,iO,tN]
 (apply pwp_loop3 (α:=Nat × List (MK × List D)) 16 [16,17,18,19,38,41,46,50] (fun z=>[(18,.c (.v (.int .i64 z.1))),(8,.c (.v (.int .u8 ((lstJ p q n L z.1).1:Int)))),(9,.c (.own 2 (lstJ p q n L z.1).2.length))]) (fun z=>[(1,.map (some (.wide 4)) false z.2),(2,.arr 82 4 ((lstJ p q n L z.1).2.map Pr.d))]) (fun z=>z.1≤L.length∧MemoOk p q z.2) (fun z=>L.length - z.1) ((0,es));(focus ((try push_cast [-List.reduceReplicate,iO,tN]);rfl));(focus exact ⟨by omega,hm⟩);(focus ((refine weak_fg ?_;try push_cast [-List.reduceReplicate,iO,tN]);(try (exact ⟨⟨rfl,rfl⟩,rfl⟩)))))
 rintro ⟨j,fs⟩ ⟨hj,hfs⟩
 simp only at hj hfs ⊢
 push_cast [-List.reduceReplicate,iO,tN]
 by_cases hlt:j < L.length
 ·have hxo:=hL (L.getD j default) (by rw [getD_lt L hlt];exact List.getElem_mem _)
  have hnx:=lstJ_next (p:=p) (q:=q) (n:=n) hlt
  have hm1:=lstJ_m p q n L j (by omega)
  have hf1:=lstJ_few n hL j (by omega)
  obtain ⟨x,hx⟩:∃ x,L.getD j default=x:=⟨_,rfl⟩
  rw [hx] at hxo hnx
  obtain ⟨st,hst0⟩:∃ st,lstJ p q n L j=st:=⟨_,rfl⟩
  rw [hst0] at hnx hm1 hf1 ⊢
  obtain ⟨m,r⟩:=st
  simp only at hm1 hf1 ⊢
  have hst:=gstep_pure p q fs x hxo hp.ok hq.ok
  cases hsv:stepV p q x with
  | none =>
   have hR:stepR p q x = .three (.agg zeroPr.e) (.agg ((List.replicate 127 false).map boolE)) (.c (.v (.bool false))):=by unfold stepR;rw [hsv]
   have hkeep:lstJ p q n L (j+1)=(m,r):=by rw [hnx];unfold leastStep;rw [hsv]
   rw [hR] at hst
   repeat' (first|((refine plc [0,1] (hst) ?_ ?_;push_cast [-List.reduceReplicate,iO,tN,hx,Pr.d];rintro r os ⟨rfl,rfl⟩;push_cast [-List.reduceReplicate,iO,tN,hx,Pr.d]))|((first|refine pC ?_|refine pQC ?_|refine pU ?_);push_cast [-List.reduceReplicate,iO,tN,hx,Pr.d])|(refine pif (fun h=>?_) (fun h=>?_)<;>first|exact pN h|push_cast [-List.reduceReplicate,iO,tN,hx,Pr.d]))
   exact ⟨(j+1,fs),⟨by simp only;omega,hfs⟩,by (refine weak_fg ?_;push_cast [-List.reduceReplicate,iO,tN,hkeep]),by simp only;omega⟩
  | some ys =>
   obtain ⟨y,s⟩:=ys
   have hR:stepR p q x = .three (.agg y.e) (.agg (s.map boolE)) (.c (.v (.bool (anyB s)))):=by unfold stepR;rw [hsv]
   have hsl:=stepV_len hsv
   obtain ⟨hyo,hyl⟩:=stepV_ok hxo hsv
   have hyc:=costV_few hyo hp.sm hq.sm
   have hls:leastStep p q n (m,r) x=if anyB s=false∨costV p q y≠n - 1 then (m,r) else
     (if s.getD (lowB s m) false=true then (lowB s m,(if lowB s m < m then [] else r)++[y]) else (lowB s m,if lowB s m < m then [] else r)):=by
    unfold leastStep;rw [hsv]
   rw [hls] at hnx
   rw [hR] at hst
   obtain ⟨B0,hB0⟩:∃ B0,s.map boolE=B0:=⟨_,rfl⟩
   have lB0:B0.length=127:=by rw [← hB0,List.length_map];exact hsl
   have kB0:∀ n,B0.all (keyOk n)=true:=fun n=>by rw [← hB0,List.all_map];exact List.all_eq_true.2 fun _ _=>rfl
   have rB0:∀ r,B0.map (E.ren r)=B0:=fun r=>by rw [← hB0,List.map_map];rfl
   have dB0:∀ c,c < 127 → B0.drop c = .v (.bool (s.getD c false)) :: B0.drop (c+1):=fun c hc=>by rw [← hB0];exact drop_bools s c (by rw [hsl];exact hc)
   rw [hB0] at hst
   cases han:anyB s with
   | false =>
    rw [han] at hst
    have hkeep:lstJ p q n L (j+1)=(m,r):=by rw [hnx,if_pos (.inl han)]
    repeat' (first|((refine plc [0,1] (hst) ?_ ?_;push_cast [-List.reduceReplicate,iO,tN,hx,Pr.d,lB0,kB0,rB0];rintro r os ⟨rfl,rfl⟩;push_cast [-List.reduceReplicate,iO,tN,hx,Pr.d,lB0,kB0,rB0]))|((first|refine pC ?_|refine pQC ?_|refine pU ?_);push_cast [-List.reduceReplicate,iO,tN,hx,Pr.d,lB0,kB0,rB0])|(refine pif (fun h=>?_) (fun h=>?_)<;>first|exact pN h|push_cast [-List.reduceReplicate,iO,tN,hx,Pr.d,lB0,kB0,rB0]))
    exact ⟨(j+1,fs),⟨by simp only;omega,hfs⟩,by (refine weak_fg ?_;push_cast [-List.reduceReplicate,iO,tN,hkeep]),by simp only;omega⟩
   | true =>
    rw [han] at hst
    have hC:=gcost_pure p q hp hq _ y fs (Nat.lt_succ_self _) hyo hfs
    by_cases hcn:costV p q y=n - 1
    ·rw [if_neg (by rw [han,hcn];simp)] at hnx
     rw [hcn] at hC
     repeat' (first|((refine plc [0,1] (hst) ?_ ?_;push_cast [-List.reduceReplicate,iO,tN,hx,Pr.d,lB0,kB0,rB0];rintro r os ⟨rfl,rfl⟩;push_cast [-List.reduceReplicate,iO,tN,hx,Pr.d,lB0,kB0,rB0]))|((refine plc [0,1] (hC) ?_ ?_;push_cast [-List.reduceReplicate,iO,tN,hx,Pr.d,lB0,kB0,rB0];rintro r os ⟨fs,hfs,rfl,rfl⟩;push_cast [-List.reduceReplicate,iO,tN,hx,Pr.d,lB0,kB0,rB0]))|((first|refine pC ?_|refine pQC ?_|refine pU ?_);push_cast [-List.reduceReplicate,iO,tN,hx,Pr.d,lB0,kB0,rB0])|(refine pif (fun h=>?_) (fun h=>?_)<;>first|exact pN h|push_cast [-List.reduceReplicate,iO,tN,hx,Pr.d,lB0,kB0,rB0]))
     obtain ⟨c0,g1,g2,g3⟩:=anyB_both hsv han
     rcases lowB_cases s m with ⟨hb1,hb2⟩|⟨hb1,hb2,hb3,hb4⟩
     ·have hm126:m≤126:=by
       rcases Nat.lt_or_ge c0 m with h|h
       ·rw [hb2 c0 g1 h] at g3;cases g3
       ·omega
      rw [hb1,if_neg (Nat.lt_irrefl m)] at hnx
      (apply pwp_loop3 (α:=Nat) 16 [16,17,18,19,38,41,46,50] (fun k=>[(15,.c (.v (.int .u8 ((32+k:Nat):Int))))]) (fun k=>[]) (fun k=>32+k≤m) (fun k=>m - (32+k)) (0);(focus ((try push_cast [-List.reduceReplicate,iO,tN]);rfl));(focus exact (by omega));(focus ((refine weak_fg ?_;try push_cast [-List.reduceReplicate,iO,tN]);(try (exact kB0 _)))))
      intro k hk
      push_cast [-List.reduceReplicate,iO,tN]
      by_cases hkm:32+k < m
      ·have hd:=dB0 (32+k) (by omega)
       rw [hb2 (32+k) (by omega) hkm] at hd
       have hk3:32+(k:Int)+1=32+((k:Int)+1):=by omega
       repeat' (first|((first|refine pC ?_|refine pQC ?_|refine pU ?_);push_cast [-List.reduceReplicate,iO,tN,lB0,kB0,hd])|(refine pif (fun h=>?_) (fun h=>?_)<;>first|exact pN h|push_cast [-List.reduceReplicate,iO,tN,lB0,kB0,hd]))
       exact ⟨k+1,by omega,by (refine weak_fg ?_;push_cast [-List.reduceReplicate,iO,tN,hk3,kB0]),by omega⟩
      ·have hkm2:m=32+k:=by omega
       subst hkm2
       have hd:=dB0 (32+k) (by omega)
       cases hbm:s.getD (32+k) false with
       | true =>
        rw [hbm] at hd
        have hkeep:lstJ p q n L (j+1)=(32+k,r++[y]):=by rw [hnx,if_pos hbm]
        repeat' (first|((first|refine pC ?_|refine pQC ?_|refine pU ?_);push_cast [-List.reduceReplicate,iO,tN,lB0,kB0,hd])|(refine pif (fun h=>?_) (fun h=>?_)<;>first|exact pN h|push_cast [-List.reduceReplicate,iO,tN,lB0,kB0,hd]))
        exact ⟨(j+1,fs),⟨by simp only;omega,hfs⟩,by (refine weak_fg ?_;push_cast [-List.reduceReplicate,iO,tN,hkeep,Pr.d]),by simp only;omega⟩
       | false =>
        rw [hbm] at hd
        have hkeep:lstJ p q n L (j+1)=(32+k,r):=by rw [hnx,if_neg (by rw [hbm];exact Bool.false_ne_true)]
        repeat' (first|((first|refine pC ?_|refine pQC ?_|refine pU ?_);push_cast [-List.reduceReplicate,iO,tN,lB0,kB0,hd])|(refine pif (fun h=>?_) (fun h=>?_)<;>first|exact pN h|push_cast [-List.reduceReplicate,iO,tN,lB0,kB0,hd]))
        exact ⟨(j+1,fs),⟨by simp only;omega,hfs⟩,by (refine weak_fg ?_;push_cast [-List.reduceReplicate,iO,tN,hkeep]),by simp only;omega⟩
     ·rw [if_pos hb3,if_pos hb1,List.nil_append] at hnx
      obtain ⟨b,hbb⟩:∃ b,lowB s m=b:=⟨_,rfl⟩
      rw [hbb] at hb1 hb2 hb3 hb4 hnx
      (apply pwp_loop3 (α:=Nat × Bool) 16 [16,17,18,19,38,41,46,50] (fun z=>[(15,.c (.v (.int .u8 (z.1:Int)))),(8,.c (.v (.int .u8 (lsM z.2 m b:Int)))),(9,.c (lsE z.2 r.length))]) (fun z=>[]) (fun z=>(z.2=false∧z.1≤b∧32≤z.1)∨(z.2=true∧z.1=b+1)) (fun z=>b+2 - z.1) ((32,false));(focus ((try push_cast [-List.reduceReplicate,iO,tN]);rfl));(focus exact .inl ⟨rfl,hb2,Nat.le_refl _⟩);(focus ((refine weak_fg ?_;try push_cast [-List.reduceReplicate,iO,tN]);(try (exact kB0 _)))))
      rintro ⟨k,f⟩ hz
      simp only at hz
      rcases hz with ⟨rfl,hz1,hz2⟩|⟨rfl,rfl⟩
      ·push_cast [-List.reduceReplicate,iO,tN]
       have hd:=dB0 k (by omega)
       have hkm:(k:Int) < (m:Int):=by omega
       by_cases hkb:k=b
       ·rw [hkb] at hd ⊢
        rw [hb3] at hd
        rw [hkb] at hkm
        repeat' (first|((first|refine pC ?_|refine pQC ?_|refine pU ?_);push_cast [-List.reduceReplicate,iO,tN,lB0,kB0,hd,hkm])|(refine pif (fun h=>?_) (fun h=>?_)<;>first|exact pN h|push_cast [-List.reduceReplicate,iO,tN,lB0,kB0,hd,hkm]))
        exact ⟨(b+1,true),.inr ⟨rfl,rfl⟩,by (refine weak_fg ?_;push_cast [-List.reduceReplicate,iO,tN,kB0]),by simp only;omega⟩
       ·rw [hb4 k hz2 (by omega)] at hd
        repeat' (first|((first|refine pC ?_|refine pQC ?_|refine pU ?_);push_cast [-List.reduceReplicate,iO,tN,lB0,kB0,hd,hkm])|(refine pif (fun h=>?_) (fun h=>?_)<;>first|exact pN h|push_cast [-List.reduceReplicate,iO,tN,lB0,kB0,hd,hkm]))
        exact ⟨(k+1,false),.inl ⟨rfl,by simp only;omega,by simp only;omega⟩,by (refine weak_fg ?_;push_cast [-List.reduceReplicate,iO,tN,kB0]),by simp only;omega⟩
      ·push_cast [-List.reduceReplicate,iO,tN]
       have hd:=dB0 b (by omega)
       rw [hb3] at hd
       have hkm:¬ ((b:Int)+1 < (b:Int)):=by omega
       repeat' (first|((first|refine pC ?_|refine pQC ?_|refine pU ?_);push_cast [-List.reduceReplicate,iO,tN,lB0,kB0,hd,hkm])|(refine pif (fun h=>?_) (fun h=>?_)<;>first|exact pN h|push_cast [-List.reduceReplicate,iO,tN,lB0,kB0,hd,hkm]))
       exact ⟨(j+1,fs),⟨by simp only;omega,hfs⟩,by (refine weak_keep true [0,1,6] ?_;push_cast [-List.reduceReplicate,iO,tN,hnx,Pr.d]),by simp only;omega⟩
    ·have hkeep:lstJ p q n L (j+1)=(m,r):=by rw [hnx,if_pos (.inr hcn)]
     repeat' (first|((refine plc [0,1] (hst) ?_ ?_;push_cast [-List.reduceReplicate,iO,tN,hx,Pr.d,lB0,kB0,rB0,hcn];rintro r os ⟨rfl,rfl⟩;push_cast [-List.reduceReplicate,iO,tN,hx,Pr.d,lB0,kB0,rB0,hcn]))|((refine plc [0,1] (hC) ?_ ?_;push_cast [-List.reduceReplicate,iO,tN,hx,Pr.d,lB0,kB0,rB0,hcn];rintro r os ⟨fs,hfs,rfl,rfl⟩;push_cast [-List.reduceReplicate,iO,tN,hx,Pr.d,lB0,kB0,rB0,hcn]))|((first|refine pC ?_|refine pQC ?_|refine pU ?_);push_cast [-List.reduceReplicate,iO,tN,hx,Pr.d,lB0,kB0,rB0,hcn])|(refine pif (fun h=>?_) (fun h=>?_)<;>first|exact pN h|push_cast [-List.reduceReplicate,iO,tN,hx,Pr.d,lB0,kB0,rB0,hcn]))
     exact ⟨(j+1,fs),⟨by simp only;omega,hfs⟩,by (refine weak_fg ?_;push_cast [-List.reduceReplicate,iO,tN,hkeep]),by simp only;omega⟩
 ·have hjl:j=L.length:=by omega
  subst hjl
  repeat' (first|((first|refine pC ?_|refine pQC ?_|refine pU ?_);push_cast [-List.reduceReplicate,iO,tN])|(refine pif (fun h=>?_) (fun h=>?_)<;>first|exact pN h|push_cast [-List.reduceReplicate,iO,tN]))
  (refine retK_of [0,1,2] ?_;push_cast [-List.reduceReplicate,iO,tN])
  exact ⟨_,_,leP_refl _,leOs_refl _,fs,hfs,rfl,rfl⟩
end Go.Proofs.YthhfpcbpiphfiaaGreatDoor
