/- What the program computes, and the plain laws of it, part 30. -/
import Derived.WideKeyEntry
import Derived.Test.YthhfpcbpiphfiaaGreatDoorR29
namespace Go.Proofs.YthhfpcbpiphfiaaGreatDoor
attribute [local irreducible] PL QL PWPr PCalls Weak RetK Kontr PA
open Go.RowKit
open IntWalk renaming iteOmega → iO, toNatUp → tN
set_option linter.unusedVariables false
set_option linter.unusedSimpArgs false
set_option maxRecDepth 20000
theorem altsM_good {P:ByteArray} {l:Alts} (h:altsM P=some l) (hP:P.size≤256):GoodA l:=by
 have h1:=altsM_ok h
 have h2:=altGo_len (Nat.zero_le _) (Nat.zero_le _) (show altGo P 0 [] []=some l from h)
 have h3:∀ a,altV l a ∈ l∨altV l a=[]:=fun a=>by
  unfold altV
  by_cases ha:a < l.length
  ·rw [getD_lt l ha];exact .inl (List.getElem_mem _)
  ·rw [List.getD_eq_getElem?_getD,List.getElem?_eq_none (by omega)];exact .inr rfl
 refine ⟨⟨by omega,fun a=>?_⟩,fun a e he=>?_⟩
 ·rcases h3 a with h|h
  ·have:=(h1 _ h).2;omega
  ·rw [h];exact Nat.zero_lt_succ _
 ·rcases h3 a with h|h
  ·exact (h1 _ h).1 e he
  ·rw [h] at he;cases he
def begJ (q:Alts) (i j:Nat):List Pr:=((List.range i).flatMap fun i=>(List.range q.length).map fun j=>⟨i,0,j,0⟩)++(List.range j).map fun j=>⟨i,0,j,0⟩
def bstJ (p q:Alts) (i j:Nat):Int:=(begJ q i j).foldl (fun b x=>lessV b (costV p q x)) (-1)
theorem begJ_next (q:Alts) (i j:Nat):begJ q i (j+1)=begJ q i j++[⟨i,0,j,0⟩]:=by
 unfold begJ
 rw [List.range_succ,List.map_append,List.append_assoc]
 rfl
theorem begJ_row (q:Alts) (i:Nat):begJ q (i+1) 0=begJ q i q.length:=by
 unfold begJ
 rw [List.range_succ,List.flatMap_append]
 simp
theorem begJ_end (p q:Alts):begJ q p.length 0=beginV p q:=by
 unfold begJ beginV
 simp
theorem bstJ_next (p q:Alts) (i j:Nat):bstJ p q i (j+1)=lessV (bstJ p q i j) (costV p q ⟨i,0,j,0⟩):=by
 unfold bstJ
 rw [begJ_next,List.foldl_append]
 rfl
theorem bstJ_row (p q:Alts) (i:Nat):bstJ p q (i+1) 0=bstJ p q i q.length:=by
 unfold bstJ
 rw [begJ_row]
theorem bstJ_end (p q:Alts):bstJ p q p.length 0=bestV p q:=by
 unfold bstJ bestV
 rw [begJ_end]
theorem begJ_ok {p q:Alts} {i j:Nat} (hi:i≤p.length) (hj:j≤q.length) (h:j=0∨i < p.length):∀ x ∈ begJ q i j,PrOk p q x:=by
 intro x hx
 unfold begJ at hx
 rcases List.mem_append.1 hx with hx|hx
 ·obtain ⟨a,ha,hx⟩:=List.mem_flatMap.1 hx
  obtain ⟨b,hb,rfl⟩:=List.mem_map.1 hx
  rw [List.mem_range] at ha hb
  exact ⟨by show a < _;omega,Nat.zero_le _,hb,Nat.zero_le _⟩
 ·obtain ⟨b,hb,rfl⟩:=List.mem_map.1 hx
  rw [List.mem_range] at hb
  exact ⟨by show i < _;omega,Nat.zero_le _,by show b < _;omega,Nat.zero_le _⟩
theorem begJ_len (q:Alts):∀ i j,(begJ q i j).length=i * q.length+j
 | 0,j=>by simp [begJ]
 | i+1,j=>by
  have h:=begJ_len q i q.length
  have h2:(begJ q (i+1) j).length=(begJ q (i+1) 0).length+j:=by unfold begJ;simp
  rw [h2,begJ_row,h,Nat.add_mul,Nat.one_mul]
theorem bstJ_bound {p q:Alts} (hp:SmallA p) (hq:SmallA q) {i j:Nat} (h:∀ x ∈ begJ q i j,PrOk p q x) : -1≤bstJ p q i j∧bstJ p q i j≤2000:=by
 have hf:∀ (l:List Pr) (b:Int),(∀ y ∈ l,PrOk p q y) → (-1≤b∧b≤2000) → (-1≤l.foldl (fun b y=>lessV b (costV p q y)) b∧l.foldl (fun b y=>lessV b (costV p q y)) b≤2000):=by
  intro l
  induction l with
  | nil=>intro b _ h;exact h
  | cons a l ih =>
   intro b h hb
   rw [List.foldl_cons]
   exact ih _ (fun y hy=>h y (by simp [hy])) (lessV_b hb (costV_few (h a (by simp)) hp hq))
 exact hf _ _ h ⟨by omega,by omega⟩
def bytD (b:Nat):List D:=[.v (.int .u8 (b:Int))]
attribute [push_cast] bytD
def txtB (t:List Nat):ByteArray:=strOfNums (t.map fun b:Nat=>(b:Int))
theorem nums_bytD:∀ t:List Nat,nums (t.map bytD)=some (t.map fun b:Nat=>(b:Int))
 | []=>rfl
 | b :: t=>by simp only [List.map_cons,bytD,nums,byteNum,nums_bytD t]
def comR (p q:Alts):PV:=match commonV p q with
 | none=>.three (.c (.v (.string (⟨#[]⟩)))) (.c (.v (.bool false))) (.c (.v (.int .i64 ((0:Int)))))
 | some t=>.three (.c (.v (.string (txtB t)))) (.c (.v (.bool true))) (.c (.v (.int .i64 ((0:Int)))))
structure CmSt where
 n:Nat
 es:List (MK × List D)
 b:List Pr
 t:List Nat
set_option maxHeartbeats 8000000 in
theorem gcommon_pure (P Q:ByteArray) (p q:Alts) (hP:globM P=0) (hQ:globM Q=0) (hp1:altsM P=some p) (hq1:altsM Q=some q) (hPs:P.size≤256) (hQs:Q.size≤256) :
  PCalls Tryz.prog 18 [.c (.v (.string P)),.c (.v (.string Q))] [] fun r os=>r=comR p q∧os=[]:=by
 have hp:=altsM_good hp1 hPs
 have hq:=altsM_good hq1 hQs
 have gP:=parse_pure P (by omega)
 have gQ:=parse_pure Q (by omega)
 unfold parseR at gP gQ
 rw [if_pos hP,hP,hp1,Option.getD_some] at gP
 rw [if_pos hQ,hQ,hq1,Option.getD_some] at gQ
 have hlp:(altsD p).length=p.length:=by unfold altsD;rw [List.length_map]
 have hlq:(altsD q).length=q.length:=by unfold altsD;rw [List.length_map]
 have hm0:MemoOk p q []:=fun e he=>by cases he
 have hpl:=hp.sm.len
 have hql:=hq.sm.len
 refine pcalls_of Tryz.func18 rfl (by simp [Tryz.ntmps18]) ?_
 rw [Tryz.ntmps18,Tryz.results18]
 push_cast [-List.reduceReplicate,iO,tN]
 have cB:CutB 21 [27,35,43,44,45,48,49,50,74,79,82]:=trivial
 repeat' (first|((refine plc [] (gP) ?_ ?_;push_cast [-List.reduceReplicate,iO,tN,hlp,hlq];rintro r os ⟨rfl,rfl⟩;push_cast [-List.reduceReplicate,iO,tN,hlp,hlq]))|((refine plc [] (gQ) ?_ ?_;push_cast [-List.reduceReplicate,iO,tN,hlp,hlq];rintro r os ⟨rfl,rfl⟩;push_cast [-List.reduceReplicate,iO,tN,hlp,hlq]))|(refine pl_mkW (n:=4) false rfl (by push_cast [-List.reduceReplicate,iO,tN,hlp,hlq]) (by push_cast [-List.reduceReplicate,iO,tN,hlp,hlq]) ?_;push_cast [-List.reduceReplicate,iO,tN,hlp,hlq];refine pl_of_pops ?_;push_cast [-List.reduceReplicate,iO,tN,hlp,hlq])|((first|refine pC ?_|refine pQC ?_|refine pU ?_);push_cast [-List.reduceReplicate,iO,tN,hlp,hlq])|(refine pif (fun h=>?_) (fun h=>?_)<;>first|exact pN h|push_cast [-List.reduceReplicate,iO,tN,hlp,hlq]))
 refine pwp_weak (weak_adopt 11 82 4 (by omega) (by push_cast [-List.reduceReplicate,iO,tN])) ?_
 push_cast [-List.reduceReplicate,iO,tN]
 (apply pwp_loop3 (α:=Nat × List (MK × List D)) 21 [27,35,43,44,45,48,49,50,74,79,82] (fun z=>[(44,.c (.v (.int .i64 z.1))),(11,.c (.own 2 (begJ q z.1 0).length)),(12,.c (.v (.int .i64 (bstJ p q z.1 0))))]) (fun z=>[(0,.map (some (.wide 4)) false z.2),(2,.arr 82 4 ((begJ q z.1 0).map Pr.d))]) (fun z=>z.1≤p.length∧MemoOk p q z.2) (fun z=>p.length - z.1) ((0,[]));(focus ((try push_cast [-List.reduceReplicate,iO,tN]);rfl));(focus exact ⟨by omega,hm0⟩);(focus ((refine weak_fg ?_;try push_cast [-List.reduceReplicate,iO,tN]);(try (exact ⟨⟨rfl,rfl⟩,rfl⟩)))))
 rintro ⟨i,es⟩ ⟨hi,hes⟩
 simp only at hi hes ⊢
 push_cast [-List.reduceReplicate,iO,tN]
 by_cases hlt:i < p.length
 ·repeat' (first|((first|refine pC ?_|refine pQC ?_|refine pU ?_);push_cast [-List.reduceReplicate,iO,tN,hlq])|(refine pif (fun h=>?_) (fun h=>?_)<;>first|exact pN h|push_cast [-List.reduceReplicate,iO,tN,hlq]))
  (apply pwp_loop3 (α:=Nat × List (MK × List D)) 21 [27,35,43,44,45,48,49,50,74,79,82] (fun z=>[(49,.c (.v (.int .i64 z.1))),(11,.c (.own 2 (begJ q i z.1).length)),(12,.c (.v (.int .i64 (bstJ p q i z.1))))]) (fun z=>[(0,.map (some (.wide 4)) false z.2),(2,.arr 82 4 ((begJ q i z.1).map Pr.d))]) (fun z=>z.1≤q.length∧MemoOk p q z.2) (fun z=>q.length - z.1) ((0,es));(focus ((try push_cast [-List.reduceReplicate,iO,tN]);rfl));(focus exact ⟨by omega,hes⟩);(focus ((refine weak_fg ?_;try push_cast [-List.reduceReplicate,iO,tN]))))
  rintro ⟨j,fs⟩ ⟨hj,hfs⟩
  simp only at hj hfs ⊢
  push_cast [-List.reduceReplicate,iO,tN]
  by_cases hjt:j < q.length
  ·have hb1:=begJ_next q i j
   have hb2:=bstJ_next p q i j
   have hbl:=begJ_len q i j
   have hbl2:=begJ_len q i (j+1)
   have hxo:PrOk p q ⟨i,0,j,0⟩:=⟨hlt,Nat.zero_le _,hjt,Nat.zero_le _⟩
   have hbb:=bstJ_bound hp.sm hq.sm (begJ_ok (p:=p) (q:=q) (i:=i) (j:=j) (by omega) (by omega) (.inr hlt))
   have hcb:=costV_few hxo hp.sm hq.sm
   have hmul:i * q.length≤1000 * 1000:=Nat.mul_le_mul (by omega) (by omega)
   have hC:=gcost_pure p q hp hq _ _ fs (Nat.lt_succ_self _) hxo hfs
   obtain ⟨c,hc⟩:∃ c,costV p q ⟨i,0,j,0⟩=c:=⟨_,rfl⟩
   rw [hc] at hC hcb hb2
   obtain ⟨b,hb⟩:∃ b,bstJ p q i j=b:=⟨_,rfl⟩
   rw [hb] at hb2 hbb ⊢
   obtain ⟨G,hG⟩:∃ G,begJ q i j=G:=⟨_,rfl⟩
   rw [hG] at hb1 hbl ⊢
   have hgl:G.length≤2000000:=by omega
   unfold lessV at hb2
   by_cases h1:0≤c
   ·by_cases h2:b < 0
    ·rw [if_pos ⟨h1,.inl h2⟩] at hb2
     repeat' (first|((refine plc [1,0] (hC) ?_ ?_;push_cast [-List.reduceReplicate,iO,tN,h1,h2];rintro r os ⟨fs,hfs,rfl,rfl⟩;push_cast [-List.reduceReplicate,iO,tN,h1,h2]))|((first|refine pC ?_|refine pQC ?_|refine pU ?_);push_cast [-List.reduceReplicate,iO,tN,h1,h2])|(refine pif (fun h=>?_) (fun h=>?_)<;>first|exact pN h|push_cast [-List.reduceReplicate,iO,tN,h1,h2]))
     exact ⟨(j+1,fs),⟨by simp only;omega,hfs⟩,by (refine weak_fg ?_;push_cast [-List.reduceReplicate,iO,tN,hb1,hb2,Pr.d]),by simp only;omega⟩
    ·by_cases h3:c < b
     ·rw [if_pos ⟨h1,.inr h3⟩] at hb2
      repeat' (first|((refine plc [1,0] (hC) ?_ ?_;push_cast [-List.reduceReplicate,iO,tN,h1,h2,h3];rintro r os ⟨fs,hfs,rfl,rfl⟩;push_cast [-List.reduceReplicate,iO,tN,h1,h2,h3]))|((first|refine pC ?_|refine pQC ?_|refine pU ?_);push_cast [-List.reduceReplicate,iO,tN,h1,h2,h3])|(refine pif (fun h=>?_) (fun h=>?_)<;>first|exact pN h|push_cast [-List.reduceReplicate,iO,tN,h1,h2,h3]))
      exact ⟨(j+1,fs),⟨by simp only;omega,hfs⟩,by (refine weak_fg ?_;push_cast [-List.reduceReplicate,iO,tN,hb1,hb2,Pr.d]),by simp only;omega⟩
     ·rw [if_neg (by rintro ⟨_,h|h⟩<;>omega)] at hb2
      repeat' (first|((refine plc [1,0] (hC) ?_ ?_;push_cast [-List.reduceReplicate,iO,tN,h1,h2,h3];rintro r os ⟨fs,hfs,rfl,rfl⟩;push_cast [-List.reduceReplicate,iO,tN,h1,h2,h3]))|((first|refine pC ?_|refine pQC ?_|refine pU ?_);push_cast [-List.reduceReplicate,iO,tN,h1,h2,h3])|(refine pif (fun h=>?_) (fun h=>?_)<;>first|exact pN h|push_cast [-List.reduceReplicate,iO,tN,h1,h2,h3]))
      exact ⟨(j+1,fs),⟨by simp only;omega,hfs⟩,by (refine weak_fg ?_;push_cast [-List.reduceReplicate,iO,tN,hb1,hb2,Pr.d]),by simp only;omega⟩
   ·rw [if_neg (by rintro ⟨h,_⟩;exact h1 h)] at hb2
    repeat' (first|((refine plc [1,0] (hC) ?_ ?_;push_cast [-List.reduceReplicate,iO,tN,h1];rintro r os ⟨fs,hfs,rfl,rfl⟩;push_cast [-List.reduceReplicate,iO,tN,h1]))|((first|refine pC ?_|refine pQC ?_|refine pU ?_);push_cast [-List.reduceReplicate,iO,tN,h1])|(refine pif (fun h=>?_) (fun h=>?_)<;>first|exact pN h|push_cast [-List.reduceReplicate,iO,tN,h1]))
    exact ⟨(j+1,fs),⟨by simp only;omega,hfs⟩,by (refine weak_fg ?_;push_cast [-List.reduceReplicate,iO,tN,hb1,hb2,Pr.d]),by simp only;omega⟩
  ·have hjl:j=q.length:=by omega
   have hr1:=begJ_row q i
   have hr2:=bstJ_row p q i
   rw [← hjl] at hr1 hr2
   repeat' (first|((first|refine pC ?_|refine pQC ?_|refine pU ?_);push_cast [-List.reduceReplicate,iO,tN])|(refine pif (fun h=>?_) (fun h=>?_)<;>first|exact pN h|push_cast [-List.reduceReplicate,iO,tN]))
   exact ⟨(i+1,fs),⟨by simp only;omega,hfs⟩,by (refine weak_fg ?_;push_cast [-List.reduceReplicate,iO,tN,hr1,hr2]),by simp only;omega⟩
 ·have hil:i=p.length:=by omega
  subst hil
  have hbo:=begJ_ok (p:=p) (q:=q) (i:=p.length) (j:=0) (Nat.le_refl _) (Nat.zero_le _) (.inl rfl)
  have hbb:=bstJ_bound hp.sm hq.sm hbo
  have hbl:=begJ_len q p.length 0
  have hmul:p.length * q.length≤1000 * 1000:=Nat.mul_le_mul (by omega) (by omega)
  rw [begJ_end,bstJ_end] at *
  by_cases hneg:bestV p q < 0
  ·have hR:comR p q = .three (.c (.v (.string (⟨#[]⟩)))) (.c (.v (.bool false))) (.c (.v (.int .i64 ((0:Int))))):=by unfold comR commonV;rw [if_pos hneg]
   rw [hR]
   repeat' (first|((first|refine pC ?_|refine pQC ?_|refine pU ?_);push_cast [-List.reduceReplicate,iO,tN,hneg])|(refine pif (fun h=>?_) (fun h=>?_)<;>first|exact pN h|push_cast [-List.reduceReplicate,iO,tN,hneg]))
   (refine retK_of [] ?_;push_cast [-List.reduceReplicate,iO,tN])
  ·repeat' (first|((first|refine pC ?_|refine pQC ?_|refine pU ?_);push_cast [-List.reduceReplicate,iO,tN,hneg])|(refine pif (fun h=>?_) (fun h=>?_)<;>first|exact pN h|push_cast [-List.reduceReplicate,iO,tN,hneg]))
   have hR:comR p q = .three (.c (.v (.string (txtB (textF p q (bestV p q).toNat (beginV p q)))))) (.c (.v (.bool true))) (.c (.v (.int .i64 ((0:Int))))):=by unfold comR commonV;rw [if_neg hneg]
   obtain ⟨N,hN⟩:=Int.eq_ofNat_of_zero_le (show 0≤bestV p q by omega)
   rw [hN] at hR hbb ⊢
   rw [Int.toNat_natCast] at hR
   obtain ⟨T,hT⟩:∃ T,textF p q N (beginV p q)=T:=⟨_,rfl⟩
   rw [hT] at hR
   obtain ⟨G0,hG0⟩:∃ G,beginV p q=G:=⟨_,rfl⟩
   rw [hG0] at hbo hbl hT ⊢
   refine pwp_weak (weak_adopt 17 5 1 (by omega) (by push_cast [-List.reduceReplicate,iO,tN])) ?_
   push_cast [-List.reduceReplicate,iO,tN]
   (apply pwp_loop3 (α:=CmSt) 21 [27,35,43,44,45,48,49,50,74,79,82] (fun z=>[(18,.c (.v (.int .i64 (z.n:Int)))),(11,.c (.own 2 z.b.length)),(17,.c (.own 3 z.t.length))]) (fun z=>[(0,.map (some (.wide 4)) false z.es),(2,.arr 82 4 (z.b.map Pr.d)),(3,.arr 5 1 (z.t.map bytD))]) (fun z=>z.n≤N∧MemoOk p q z.es∧(∀ x ∈ z.b,PrOk p q x)∧z.b.length≤1000000000000∧z.t++textF p q z.n z.b=T∧z.t.length+z.n=N) (fun z=>z.n) (⟨N,es,G0,[]⟩);(focus ((try push_cast [-List.reduceReplicate,iO,tN]);rfl));(focus exact ⟨Nat.le_refl _,hes,hbo,by show G0.length≤_;omega,hT,by simp⟩);(focus ((refine weak_fg ?_;try push_cast [-List.reduceReplicate,iO,tN]))))
   rintro ⟨n,es,G,t⟩ ⟨i1,i2,i3,i4,i5,i6⟩
   simp only at i1 i2 i3 i4 i5 i6 ⊢
   push_cast [-List.reduceReplicate,iO,tN]
   cases n with
   | zero =>
    unfold textF at i5
    rw [List.append_nil] at i5
    subst i5
    have hnb:=nums_bytD t
    rw [hR]
    refine pwp_weak (weak_frz 3 (by omega)) ?_
    push_cast [-List.reduceReplicate,iO,tN]
    repeat' (first|((first|refine pC ?_|refine pQC ?_|refine pU ?_);push_cast [-List.reduceReplicate,iO,tN,hnb])|(refine pif (fun h=>?_) (fun h=>?_)<;>first|exact pN h|push_cast [-List.reduceReplicate,iO,tN,hnb]))
    (refine retK_of [] ?_;push_cast [-List.reduceReplicate,iO,tN,txtB])
   | succ n =>
    have hcast:((n+1:Nat):Int)=(n:Int)+1:=by omega
    have hn2:0≤(n:Int)+1∧(n:Int)+1≤100000:=by omega
    have hS:=gspread_pure p q hp hq ((n:Int)+1) G es i3 i4 i2
    have hAok:=spread_ok ((n:Int)+1) hp.sm hq.sm (fuelV G) G [] ⟨i3,by simp,List.nodup_nil⟩
    unfold textF at i5
    simp only at i5
    rw [hcast] at i5
    obtain ⟨A,hA⟩:∃ A,spreadF p q ((n:Int)+1) (fuelV G) G []=A:=⟨_,rfl⟩
    rw [hA] at hS hAok i5
    have hAl:=hAok.few hp.sm hq.sm
    have hL:=fun fs hfs=>gleast_pure p q hp hq ((n:Int)+1) hn2 A fs hAok.ha hAl hfs
    have hgo:=leastGo_ok (n:=(n:Int)+1) A (127,[]) hAok.ha (by simp)
    rw [show A.foldl (leastStep p q ((n:Int)+1)) (127,[])=leastV p q ((n:Int)+1) A from rfl] at hgo
    have hmm:=lstJ_m p q ((n:Int)+1) A A.length (Nat.le_refl _)
    rw [show lstJ p q ((n:Int)+1) A A.length=leastV p q ((n:Int)+1) A by unfold lstJ leastV;rw [List.take_length]] at hmm
    obtain ⟨r,hr⟩:∃ r,leastV p q ((n:Int)+1) A=r:=⟨_,rfl⟩
    simp only [hr] at hL
    rw [hr] at i5 hgo hmm
    obtain ⟨m,G2⟩:=r
    simp only [List.length_nil] at hL i5 hgo hmm
    have htl:t.length≤100000:=by omega
    repeat' (first |  ((refine plc [1,0,2] (hS) ?_ ?_;push_cast [-List.reduceReplicate,iO,tN];rintro r os ⟨fs,J,hfs,rfl,rfl⟩;push_cast [-List.reduceReplicate,iO,tN]))|(refine pl_weak (weak_frz 4 (by omega)) ?_;push_cast [-List.reduceReplicate,iO,tN];(refine plc [1,0] (hL fs hfs) ?_ ?_;push_cast [-List.reduceReplicate,iO,tN];rintro r os ⟨fs2,hf2,rfl,rfl⟩;push_cast [-List.reduceReplicate,iO,tN]))  | ((first|refine pC ?_|refine pQC ?_|refine pU ?_);push_cast [-List.reduceReplicate,iO,tN])|(refine pif (fun h=>?_) (fun h=>?_)<;>first|exact pN h|push_cast [-List.reduceReplicate,iO,tN]))
    exact ⟨⟨n,fs2,G2,t++[m]⟩,⟨by simp only;omega,hf2,hgo.1,by simp only;omega,by simp only;rw [List.append_assoc];exact i5,by simp only [List.length_append,List.length_cons,List.length_nil];omega⟩,by (refine weak_keep true [0,1,5,3] ?_;push_cast [-List.reduceReplicate,iO,tN]),by simp only;omega⟩
end Go.Proofs.YthhfpcbpiphfiaaGreatDoor
namespace Go.Proofs.YthhfpcbpiphfiaaGreatDoor
open Go.RowKit
open IntWalk renaming iteOmega → iO, toNatUp → tN
set_option linter.unusedVariables false
set_option linter.unusedSimpArgs false
def beginL:List El → List UInt8
 | []=>[]
 | e :: l=>if e.lit=0 then [] else UInt8.ofNat e.lit :: beginL l
def cpre:List UInt8 → List UInt8 → List UInt8
 | a :: l,b :: m=>if a=b then a :: cpre l m else []
 | _,_=>[]
def prefL:List (List El) → List UInt8
 | []=>[]
 | x :: r=>r.foldl (fun a y=>cpre a (beginL y)) (beginL x)
def LitOk (e:El):Prop:=e.lit≠0 → e.star=false∧∀ b:UInt8,e.has b=true → b=UInt8.ofNat e.lit
theorem begin_mat:∀ {l:List El} {s:List UInt8},(∀ e ∈ l,LitOk e) → mat l s=true → beginL l <+: s
 | [],s,_,_=>List.nil_prefix
 | e :: l,s,hl,h=>by
  unfold beginL
  split
  ·exact List.nil_prefix
  ·rename_i h0
   obtain ⟨h1,h2⟩:=hl e (by simp) h0
   cases s with
   | nil=>rw [mat_end h1] at h;cases h
   | cons b s =>
    rw [mat_one h1,Bool.and_eq_true] at h
    rw [← h2 b h.1]
    exact List.cons_prefix_cons.2 ⟨rfl,begin_mat (fun x hx=>hl x (by simp [hx])) h.2⟩
theorem cpre_left:∀ a b:List UInt8,cpre a b <+: a
 | [],[]=>List.nil_prefix
 | [],_ :: _=>List.nil_prefix
 | _ :: _,[]=>List.nil_prefix
 | a :: l,b :: m=>by
  unfold cpre
  split
  ·exact List.cons_prefix_cons.2 ⟨rfl,cpre_left l m⟩
  ·exact List.nil_prefix
theorem cpre_right:∀ a b:List UInt8,cpre a b <+: b
 | [],[]=>List.nil_prefix
 | [],_ :: _=>List.nil_prefix
 | _ :: _,[]=>List.nil_prefix
 | a :: l,b :: m=>by
  unfold cpre
  split
  ·rename_i e
   subst e
   exact List.cons_prefix_cons.2 ⟨rfl,cpre_right l m⟩
  ·exact List.nil_prefix
theorem foldl_cpre:∀ (r:List (List El)) (a:List UInt8),(r.foldl (fun a y=>cpre a (beginL y)) a <+: a)∧∀ y ∈ r,r.foldl (fun a y=>cpre a (beginL y)) a <+: beginL y
 | [],a=>⟨List.prefix_refl a,fun y hy=>by cases hy⟩
 | x :: r,a=>by
  obtain ⟨h1,h2⟩:=foldl_cpre r (cpre a (beginL x))
  refine ⟨h1.trans (cpre_left _ _),fun y hy=>?_⟩
  rcases List.mem_cons.1 hy with rfl|hy
  ·exact h1.trans (cpre_right _ _)
  ·exact h2 y hy
theorem prefL_le {l:List (List El)} {x:List El} (h:x ∈ l):prefL l <+: beginL x:=by
 cases l with
 | nil=>cases h
 | cons y r =>
  rcases List.mem_cons.1 h with rfl|h
  ·exact (foldl_cpre r _).1
  ·exact (foldl_cpre r _).2 x h
theorem litOk_zero {e:El} (h:e.lit=0):LitOk e:=fun h0=>absurd h h0
theorem litOk_lit (b:UInt8):LitOk (litEl b):=fun h0=>⟨rfl,fun c hc=>by
 unfold El.has litEl at hc
 simp only at hc
 have:UInt8.ofNat b.toNat=b:=by simp
 show c=UInt8.ofNat b.toNat
 rw [this]
 by_cases e:c.toNat=b.toNat
 ·exact UInt8.toNat_inj.1 e
 ·unfold noneS at hc
  rw [List.getD_eq_getElem?_getD,List.getElem?_set_ne (fun h=>e h.symm),List.getElem?_replicate] at hc
  split at hc<;>simp at hc⟩
theorem altGo_lit {p:ByteArray} {i:Nat} {l:List (List El)} {x:List El} {r:List (List El)} (h:altGo p i l x=some r) (hl:∀ y ∈ l,∀ e ∈ y,LitOk e) (hx:∀ e ∈ x,LitOk e):∀ y ∈ r,∀ e ∈ y,LitOk e:=by
 have snoc:∀ {x:List El} {e:El},(∀ e ∈ x,LitOk e) → LitOk e → ∀ e' ∈ x++[e],LitOk e':=fun hx he e' h=>by
  rcases List.mem_append.1 h with h|h
  ·exact hx e' h
  ·rw [List.mem_singleton.1 h];exact he
 have snoc2:∀ {l:List (List El)} {x:List El},(∀ y ∈ l,∀ e ∈ y,LitOk e) → (∀ e ∈ x,LitOk e) → ∀ y ∈ l++[x],∀ e ∈ y,LitOk e:=fun hl hx y h=>by
  rcases List.mem_append.1 h with h|h
  ·exact hl y h
  ·rw [List.mem_singleton.1 h];exact hx
 fun_induction altGo p i l x<;>first
  | (cases h;done)
  | (injection h with h;subst h;exact snoc2 hl hx)
  | (rename_i ih;exact ih h (snoc2 hl hx) (fun e he=>by cases he))
  | (rename_i ih;exact ih h hl (snoc hx (litOk_zero rfl)))
  | (rename_i ih;exact ih h hl (snoc hx (litOk_lit _)))
  | skip
theorem altsM_lit {p:ByteArray} {r:List (List El)} (h:altsM p=some r):∀ y ∈ r,∀ e ∈ y,LitOk e:=altGo_lit h (fun y hy=>by cases hy) (fun e he=>by cases he)
def prefM (p:ByteArray):List UInt8:=match altsM p with|none=>[]|some l=>prefL l
theorem match_pref {p s:ByteArray} (h:matchM p s=true):globM p=0∧prefM p <+: s.data.toList:=by
 unfold matchM at h
 rw [Bool.and_eq_true,Bool.and_eq_true,decide_eq_true_eq] at h
 refine ⟨h.1.1,?_⟩
 have h2:=h.2
 unfold prefM
 cases e:altsM p with
 | none=>exact List.nil_prefix
 | some l =>
  rw [e] at h2
  simp only at h2 ⊢
  obtain ⟨x,hx,hm⟩:=List.any_eq_true.1 h2
  exact (prefL_le hx).trans (begin_mat (altsM_lit e x hx) hm)
structure Priv (Γ:G) (w:World) (B:Nat → Prop):Prop where
 lt:∀ b,B b → b < w.heap.size
 imm:∀ b,B b → ¬ Γ.I b
 own:∀ b,B b → ¬ Mine Γ b
theorem Priv.grow {p:Nat} {Γ Γ':G} {w w':World} {B:Nat → Prop} (h:Priv Γ w B) (hg:Grow p Γ w Γ' w'):Priv Γ' w' B∧∀ b,B b → w'.heap[b]? = w.heap[b]?:=by
 have hz:=hg.ext.size
 refine ⟨⟨fun b hb=>Nat.lt_of_lt_of_le (h.lt b hb) hz,fun b hb hi=>?_,fun b hb hm=>?_⟩,fun b hb=>hg.ext.block b (h.lt b hb) (h.own b hb)⟩
 ·rcases hg.imm b hi with h1|h1|h1
  ·exact h.imm b hb h1
  ·exact h.own b hb h1
  ·have:=h.lt b hb;omega
 ·obtain ⟨k,h1,h2,rfl⟩:=hm
  rcases hg.new k h1 h2 with h3|h3
  ·exact h.own _ hb h3
  ·have:=h.lt _ hb;omega
theorem Priv.sub {Γ:G} {w:World} {B B':Nat → Prop} (h:Priv Γ w B) (hs:∀ b,B' b → B b):Priv Γ w B':=⟨fun b hb=>h.lt b (hs b hb),fun b hb=>h.imm b (hs b hb),fun b hb=>h.own b (hs b hb)⟩
theorem MemOk.show_ {Γ:G} {os:List Ob} {w:World} (hm:MemOk Γ os w) (o:Ob) (b c:Nat) (hro:RO w (Γ.push b c) Γ.n o) (hb:Priv Γ w (· = b)):MemOk (Γ.push b c) (os++[o]) w:=by
 have hag:=push_agree Γ b c
 have hS:=Same.refl w
 have hbi:=hb.imm b rfl
 have hbo:=hb.own b rfl
 refine ⟨by simp [G.push,hm.n],fun k o' ho=>?_,fun k k' hk hk' hc hc' he=>?_,fun k hk hc=>?_,fun b' hb'=>hm.lt b' hb',hm.pins (hS.stay Γ.I)⟩
 ·rcases Nat.lt_or_ge k os.length with hlt|hge
  ·rw [List.getElem?_append_left hlt] at ho
   have hk:k < Γ.n:=by rw [hm.n];exact hlt
   exact (hm.ob k o' ho).stay (hS.stay Γ.I) hag hk fun hc=>rfl
  ·rw [List.getElem?_append_right hge] at ho
   have:k=os.length:=by
    have:=(List.getElem?_eq_some_iff.1 ho).1
    simp at this
    omega
   subst this
   simp at ho
   subst ho
   rw [← hm.n]
   exact hro
 ·have hk1:k < Γ.n+1:=hk
  have hk2:k' < Γ.n+1:=hk'
  by_cases e1:k=Γ.n<;>by_cases e2:k'=Γ.n
  ·omega
  ·subst e1
   simp only [G.push,upd_same,upd_ne _ _ e2] at he hc hc'
   exact absurd ⟨k',by omega,hc',he.symm⟩ hbo
  ·subst e2
   simp only [G.push,upd_same,upd_ne _ _ e1] at he hc hc'
   exact absurd ⟨k,by omega,hc,he⟩ hbo
  ·simp only [G.push,upd_ne _ _ e1,upd_ne _ _ e2] at he hc hc'
   exact hm.sep k k' (by omega) (by omega) hc hc' he
 ·have hk1:k < Γ.n+1:=hk
  by_cases e1:k=Γ.n
  ·subst e1
   simp only [G.push,upd_same] at hc ⊢
   exact hbi
  ·simp only [G.push,upd_ne _ _ e1] at hc ⊢
   exact hm.off k (by omega) hc
theorem grow_show {p:Nat} {Γ0 Γ:G} {w0 w:World} (hg:Grow p Γ0 w0 Γ w) (b c:Nat) (hb:Mine Γ0 b∨w0.heap.size≤b) (hp:p≤Γ.n):Grow p Γ0 w0 (Γ.push b c) w:=by
 refine ⟨hg.ext,hg.sub,fun k hk hc=>?_,hg.imm,fun k hk=>?_⟩
 ·have hk1:k < Γ.n+1:=hk
  by_cases e1:k=Γ.n
  ·subst e1
   simp only [G.push,upd_same] at hc ⊢
   exact hb
  ·simp only [G.push,upd_ne _ _ e1] at hc ⊢
   exact hg.new k (by omega) hc
 ·have h1:(Γ.push b c).β k=Γ.β k:=upd_ne _ _ (by omega)
  have h2:(Γ.push b c).cap k=Γ.cap k:=upd_ne _ _ (by omega)
  rw [h1,h2]
  exact hg.keep k hk
def G.imms (Γ:G) (B:Nat → Prop):G:=⟨Γ.n,Γ.β,Γ.cap,fun b=>Γ.I b∨B b⟩
theorem imms_stay (Γ:G) (B:Nat → Prop) (w:World):Stay w Γ.I w (Γ.imms B).I:=⟨Nat.le_refl _,fun _ _ _=>rfl,fun _ h=>.inl h⟩
theorem MemOk.imms {Γ:G} {os:List Ob} {w:World} (hm:MemOk Γ os w) {B:Nat → Prop} (hB:Priv Γ w B):MemOk (Γ.imms B) os w:=by
 have hs:=imms_stay Γ B w
 refine ⟨hm.n,fun k o ho=>?_,hm.sep,fun k hk hc hI=>?_,fun b hb=>?_,hm.pins hs⟩
 ·have hk:k < Γ.n:=by rw [hm.n];exact (List.getElem?_eq_some_iff.1 ho).1
  exact (hm.ob k o ho).stay hs (fun j hj=>⟨hj,rfl,rfl⟩) hk fun hc=>rfl
 ·rcases hI with hI|hI
  ·exact hm.off k hk hc hI
  ·exact hB.own _ hI ⟨k,hk,hc,rfl⟩
 ·rcases hb with hb|hb
  ·exact hm.lt b hb
  ·exact hB.lt b hb
theorem grow_imms {p:Nat} {Γ0 Γ:G} {w0 w:World} (hg:Grow p Γ0 w0 Γ w) {B:Nat → Prop} (hB:∀ b,B b → Mine Γ0 b∨w0.heap.size≤b):Grow p Γ0 w0 (Γ.imms B) w:=by
 refine ⟨hg.ext,fun b hb=>.inl (hg.sub b hb),hg.new,fun b hb=>?_,hg.keep⟩
 rcases hb with hb|hb
 ·exact hg.imm b hb
 ·exact .inr (hB b hb)
theorem offm_push {Γ:G} {b c D:Nat} (h:OffM Γ D) (hb:D≠b):OffM (Γ.push b c) D:=by
 refine ⟨h.1,fun k hk hc e=>?_⟩
 have hk1:k < Γ.n+1:=hk
 by_cases e1:k=Γ.n
 ·subst e1
  simp only [G.push,upd_same] at e
  exact hb e.symm
 ·simp only [G.push,upd_ne _ _ e1] at hc e
  exact h.2 k (by omega) hc e
theorem offm_imms {Γ:G} {B:Nat → Prop} {D:Nat} (h:OffM Γ D) (hb:¬ B D):OffM (Γ.imms B) D:=⟨fun hI=>hI.elim h.1 hb,h.2⟩
structure HE where
 key:MK
 blk:Nat
 cap:Nat
 rows:List (List D)
def HE.val (h:HE):Value:=.slice (some ⟨h.blk,0,none⟩) h.rows.length h.cap
structure HArr (w:World) (I:Nat → Prop) (el:TypeId) (sz:Nat) (h:HE):Prop where
 arr:∃ cur:Array Value,Blk w h.blk el cur∧cur.size=h.cap * sz∧All2 (RD w I) h.rows.flatten (cur.toList.take (h.rows.length * sz))
 le:h.rows.length≤h.cap
 max:h.cap≤maxLen
 wid:∀ r ∈ h.rows,r.length=sz
structure HMap (w:World) (I:Nat → Prop) (kk:Option KI) (M:Nat) (el:TypeId) (sz:Nat) (hs:List HE) (ms:List MapEntry) (clock:Nat):Prop where
 map:w.heap[M]? = some (.map ms.toArray clock)
 rows:All2 (fun h m=>m.key=h.key.v∧m.val=h.val) hs ms
 kind:∀ h ∈ hs,h.key.kind=kk
 nodup:(hs.map HE.key).Nodup
 born:(ms.map MapEntry.born).Pairwise (· < ·)
 clock:∀ b ∈ ms.map MapEntry.born,b < clock
 arr:∀ h ∈ hs,HArr w I el sz h
 sep:(M :: hs.map HE.blk).Nodup
def hidB (M:Nat) (hs:List HE) (b:Nat):Prop:=b=M∨∃ h ∈ hs,h.blk=b
theorem HArr.stay {w w':World} {I I':Nat → Prop} {el:TypeId} {sz:Nat} {h:HE} (hh:HArr w I el sz h) (hs:Stay w I w' I') (hb:w'.heap[h.blk]? = w.heap[h.blk]?):HArr w' I' el sz h:=by
 obtain ⟨cur,h1,h2,h3⟩:=hh.arr
 exact ⟨⟨cur,by unfold Blk at *;rw [hb];exact h1,h2,h3.mono fun _ _=>RD.stay hs _ _⟩,hh.le,hh.max,hh.wid⟩
theorem HMap.stay {w w':World} {I I':Nat → Prop} {kk:Option KI} {M:Nat} {el:TypeId} {sz:Nat} {hs:List HE} {ms:List MapEntry} {clock:Nat} (h:HMap w I kk M el sz hs ms clock) (hst:Stay w I w' I') (hb:∀ b,hidB M hs b → w'.heap[b]? = w.heap[b]?):HMap w' I' kk M el sz hs ms clock :=
 ⟨by rw [hb M (.inl rfl)];exact h.map,h.rows,h.kind,h.nodup,h.born,h.clock,fun e he=>(h.arr e he).stay hst (hb _ (.inr ⟨e,he,rfl⟩)),h.sep⟩
theorem HArr.data {w:World} {I:Nat → Prop} {el:TypeId} {sz:Nat} {h:HE} (hh:HArr w I el sz h) (hI:I h.blk):RD w I (.sl sz h.rows) h.val:=by
 obtain ⟨cur,b1,b2,b3⟩:=hh.arr
 have hle:=hh.le
 rw [rd_sl]
 refine ⟨_,h.cap,cur.toList.take (h.rows.length * sz),rfl,hle,⟨?_,fun _=>⟨_,0,rfl,hI,b1.lt,fun i u hu=>?_⟩⟩,hh.wid,b3⟩
 ·rw [List.length_take,Array.length_toList,b2]
  exact Nat.min_eq_left (Nat.mul_le_mul_right _ hle)
 ·rw [b1.cell,Nat.zero_add,← Array.getElem?_toList]
  rw [List.getElem?_take] at hu
  split at hu
  ·exact hu
  ·cases hu
def HE.row (sz:Nat) (h:HE):MK × List D:=(h.key,[.sl sz h.rows])
theorem all2_row {w:World} {I:Nat → Prop} {sz:Nat}:∀ {hs:List HE} {ms:List MapEntry},All2 (fun h m=>m.key=h.key.v∧m.val=h.val) hs ms → (∀ h ∈ hs,RD w I (.sl sz h.rows) h.val) → All2 (fun (e:MK × List D) (m:MapEntry)=>m.key=e.1.v∧RV w I false e.2 m.val) (hs.map (HE.row sz)) ms
 | [],[],_,_=>trivial
 | h :: hs,m :: ms,ha,hd=>⟨⟨ha.1.1,[m.val],⟨by rw [ha.1.2];exact hd h (by simp),trivial⟩,rfl⟩,all2_row ha.2 fun x hx=>hd x (by simp [hx])⟩
 | [],_ :: _,ha,_=>ha.elim
 | _ :: _,[],ha,_=>ha.elim
theorem HMap.rm {w:World} {I:Nat → Prop} {kk:Option KI} {M:Nat} {el:TypeId} {sz:Nat} {hs:List HE} {ms:List MapEntry} {clock:Nat} (h:HMap w I kk M el sz hs ms clock) (hI:∀ e ∈ hs,I e.blk):RM w I kk false (hs.map (HE.row sz)) ms clock:=by
 refine ⟨all2_row h.rows fun e he=>(h.arr e he).data (hI e he),fun e he=>?_,?_,h.born,h.clock⟩
 ·obtain ⟨x,hx,rfl⟩:=List.mem_map.1 he
  exact h.kind x hx
 ·have:(hs.map (HE.row sz)).map (·.1)=hs.map HE.key:=by rw [List.map_map];rfl
  rw [this]
  exact h.nodup
theorem hid_show {N p:Nat} {Γ Γ0:G} {s:S} {a:Act} {w w0:World} {kk:Option KI} {M Bx:Nat} {el ty:TypeId} {sz:Nat} {hs:List HE} {ms:List MapEntry} {clock:Nat} (hA:Stands N p Γ s a w) (hH:HMap w Γ.I kk M el sz hs ms clock)
  (hbx:Blk w Bx ty #[.map (some M)]) (hB:Priv Γ w fun b=>b=Bx∨hidB M hs b) (hne:Bx≠M) (hne2:∀ h ∈ hs,h.blk≠Bx) (hg:Grow p Γ0 w0 Γ w) (hnew:∀ b,b=Bx∨hidB M hs b → Mine Γ0 b∨w0.heap.size≤b)
  {i:Nat} (hi:s.get i=some (.c (.v (.pointer (some ⟨Bx,0,none⟩))))) :
  ∃ Γ',Stands N p Γ' ⟨(i,.c (.ptr (s.o.length+1) 0)) :: s.t,s.o++[.map kk false (hs.map (HE.row sz))]++[.box ty [.mp s.o.length]]⟩ a w∧Grow p Γ0 w0 Γ' w∧∀ D,OffM Γ D → D≠Bx → ¬ hidB M hs D → OffM Γ' D:=by
 have hn:=hA.inv.m.n
 have hMs:∀ h ∈ hs,h.blk≠M:=fun h hh e=>by
  have:=(List.nodup_cons.1 hH.sep).1
  exact this (List.mem_map.2 ⟨h,hh,e⟩)
 obtain ⟨A,hAd⟩:∃ A:Nat → Prop,A=fun b=>∃ h ∈ hs,h.blk=b:=⟨_,rfl⟩
 have hBA:Priv Γ w A:=hB.sub fun b hb=>by rw [hAd] at hb;exact .inr (.inr hb)
 have m1:=hA.inv.m.imms hBA
 have s1:=imms_stay Γ A w
 have g1:=grow_imms hg (B:=A) fun b hb=>hnew b (by rw [hAd] at hb;exact .inr (.inr hb))
 have hH1:=hH.stay s1 (fun _ _=>rfl)
 have hrm:=hH1.rm fun e he=>.inr (by rw [hAd];exact ⟨e,he,rfl⟩)
 have p1:Priv (Γ.imms A) w fun b=>b=M∨b=Bx:=⟨fun b hb=>hB.lt b (by rcases hb with rfl|rfl;exact .inr (.inl rfl);exact .inl rfl),fun b hb hI=>by
   rcases hI with hI|hI
   ·exact hB.imm b (by rcases hb with rfl|rfl;exact .inr (.inl rfl);exact .inl rfl) hI
   ·rw [hAd] at hI
    obtain ⟨h,hh,e⟩:=hI
    rcases hb with rfl|rfl
    ·exact hMs h hh e
    ·exact hne2 h hh e,
  fun b hb hm=>hB.own b (by rcases hb with rfl|rfl;exact .inr (.inl rfl);exact .inl rfl) hm⟩
 obtain ⟨Γ1,hΓ1⟩:∃ Γ1,Γ1=Γ.imms A:=⟨_,rfl⟩
 rw [← hΓ1] at m1 g1 hrm p1
 have n1:Γ1.n=s.o.length:=m1.n
 have m2:=m1.show_ (.map kk false (hs.map (HE.row sz))) M 1 ⟨by simp [G.push,upd_same],ms.toArray,clock,by simp only [G.push,upd_same];exact hH.map,by
  have e:ms.toArray.toList=ms:=by simp
  rw [e]
  exact hrm⟩ (p1.sub fun b hb=>.inl hb)
 have g2:=grow_show g1 M 1 (hnew M (.inr (.inl rfl))) (by rw [n1,← hn];exact hA.le)
 obtain ⟨Γ2,hΓ2⟩:∃ Γ2,Γ2=Γ1.push M 1:=⟨_,rfl⟩
 have n2:Γ2.n=s.o.length+1:=by rw [hΓ2];simp [G.push,n1]
 have c2:Γ2.β s.o.length=M:=by rw [hΓ2,← n1];exact upd_same _ _ _
 have p2:Priv Γ2 w (· = Bx):=⟨fun b hb=>p1.lt b (.inr hb),fun b hb hI=>p1.imm b (.inr hb) (by rw [hΓ2] at hI;exact hI),fun b hb hm=>by
  obtain ⟨k,h1,h2,h3⟩:=hm
  rw [hΓ2] at h1 h2 h3
  have hk1:k < Γ1.n+1:=h1
  by_cases e1:k=Γ1.n
  ·subst e1
   simp only [G.push,upd_same] at h3
   exact hne (hb.symm.trans h3.symm)
  ·simp only [G.push,upd_ne _ _ e1] at h2 h3
   exact p1.own b (.inr hb) ⟨k,by omega,h2,h3⟩⟩
 rw [← hΓ2] at m2 g2
 have m3:=m2.show_ (.box ty [.mp s.o.length]) Bx 1 ⟨by simp [G.push,upd_same],[.map (some M)],by simp only [G.push,upd_same];exact hbx,⟨⟨by simp [G.push,n2];omega,by
   show Value.map (some M) = .map (some ((Γ2.push Bx 1).β s.o.length))
   have:(Γ2.push Bx 1).β s.o.length=Γ2.β s.o.length:=upd_ne _ _ (by omega)
   rw [this,c2]⟩,trivial⟩,.inr (by simp [G.push,upd_same])⟩ p2
 have g3:=grow_show g2 Bx 1 (hnew Bx (.inl rfl)) (by rw [n2];have:=hA.le;omega)
 have a3:∀ j,j < Γ.n → Agree Γ (Γ2.push Bx 1) j:=fun j hj=>by
  have e1:(Γ2.push Bx 1).β j=Γ.β j:=by
   have x1:(Γ2.push Bx 1).β j=Γ2.β j:=upd_ne _ _ (by omega)
   have x2:Γ2.β j=Γ1.β j:=by rw [hΓ2];exact upd_ne _ _ (by omega)
   rw [x1,x2,hΓ1];rfl
  have e2:(Γ2.push Bx 1).cap j=Γ.cap j:=by
   have x1:(Γ2.push Bx 1).cap j=Γ2.cap j:=upd_ne _ _ (by omega)
   have x2:Γ2.cap j=Γ1.cap j:=by rw [hΓ2];exact upd_ne _ _ (by omega)
   rw [x1,x2,hΓ1];rfl
  exact ⟨by simp [G.push,n2];omega,e1,e2⟩
 have s3:Stay w Γ.I w (Γ2.push Bx 1).I:=by rw [hΓ2,hΓ1];exact s1
 have hI3:=hA.inv.heap m3 s3 a3
 refine ⟨Γ2.push Bx 1,⟨⟨hI3.size,hI3.defers,fun j q hq=>?_,m3⟩,by simp [G.push,n2];have:=hA.le;omega⟩,g3,fun D h1 h2 h3=>offm_push (by rw [hΓ2,hΓ1];exact offm_push (offm_imms h1 fun hm=>by rw [hAd] at hm;exact h3 (.inr hm)) fun e=>h3 (.inl e)) h2⟩
 simp only [S.get,look] at hq
 split at hq
 ·rename_i e
  subst e
  cases hq
  obtain ⟨h1,h2,_⟩:=hA.inv.t j _ hi
  refine ⟨h1,by simp [G.push,n2],?_⟩
  have:(Γ2.push Bx 1).β (s.o.length+1)=Bx:=by rw [← n2];exact upd_same _ _ _
  rw [this]
  exact h2
 ·exact hI3.t j q hq
end Go.Proofs.YthhfpcbpiphfiaaGreatDoor
