/- What the program computes, and the plain laws of it, part 42. -/
import Derived.Lib.ItoaNum
import Derived.WideKeyEntry
import Derived.Shelf.Vars
import Derived.Test.YtmbbkfffcflfcaaGreatDoorT41
namespace Go.Proofs.YtmbbkfffcflfcaaGreatDoor
open Go.Proofs.Tryz
set_option linter.unusedSimpArgs false
set_option linter.unusedVariables false
section
attribute [local irreducible] PL QL aL ah bg La aV PA bm
open Go.RowKit
open IntWalk renaming iteOmega → O, toNatUp → U
set_option maxRecDepth 20000
theorem ut {l:List Mod} (h1:∀ m ∈ l,kb m=true) (h2:(l.map Mod.name).Nodup):∀ i,i≤l.length → ge l i=true
 | 0,_=>rfl
 | i+1,h=>by
  have hlt:i < l.length:=ac;rw [ge,ut h1 h2 i ac,h1 _ (by rw [ai l hlt];exact List.getElem_mem _)];have hn:(aJ (l.take i) (l.getD i default).name).isNone=true:=rW fun m hm e=>by
   obtain ⟨j,hj,rfl⟩:=List.mem_take_iff_getElem.1 hm;have hji:j < l.length:=ac;have:=(List.pairwise_iff_getElem.1 h2) j i (by rw [List.length_map];exact hji) (by rw [List.length_map];exact hlt) ac;rw [List.getElem_map,List.getElem_map] at this;rw [ai l hlt] at e;exact this e
  rw [hn];rfl
def KE (l:List Mod):Bool:=l.all fun m=>kb m && (decide (m.name.size≤100) && decide (m.aliases.length≤100) && decide (m.needs.length≤100) && decide (m.pre.length≤100) && decide (m.post.length≤100) && m.aliases.all (fun s=>decide (s.size≤100)) && m.needs.all (fun s=>decide (s.size≤100)) && m.pre.all (fun s=>decide (s.size≤100)) && m.post.all (fun s=>decide (s.size≤100)))
structure KG (m:Mod):Prop where
 ok:kb m=true
 fit:rF m
 als:m.aliases.length≤100
 nds:m.needs.length≤100
 alz:∀ s ∈ m.aliases,s.size≤100
theorem FY {l:List Mod} (h:KE l=true):∀ m ∈ l,KG m:=fun m hm=>by
 have h1:=List.all_eq_true.1 h m hm;simp only [Bool.and_eq_true,decide_eq_true_eq,List.all_eq_true] at h1;obtain ⟨h0,⟨⟨⟨⟨⟨⟨⟨⟨a,b⟩,c⟩,d⟩,e⟩,f⟩,g⟩,i⟩,j⟩⟩:=h1;exact ⟨h0,⟨bN a af,fun s hs=>bN (f s hs) af,fun s hs=>bN (g s hs) af,fun s hs=>bN (i s hs) af,fun s hs=>bN (j s hs) af,ac,ac,ac,ac⟩,b,c,f⟩
theorem JL:KE wmL=true:=by decide +kernel
theorem CY:(wmL.map Mod.name).Nodup:=by decide +kernel
structure eN (l:List Mod):Prop where
 w:∀ m ∈ l,KG m
 nd:(l.map Mod.name).Nodup
 len:l.length≤8
theorem eN.of {l:List Mod} (h:l.Sublist wmL):eN l :=
 ⟨fun m hm=>FY JL m (h.subset hm),(h.map Mod.name).nodup CY,h.length_le⟩
theorem eN.new {l:List Mod} (h:eN l):jN l=true:=by
 unfold jN;rw [decide_eq_true (show l.length≤128 by have:=h.len;omega),ut (fun m hm=>(h.w m hm).ok) h.nd l.length (Nat.le_refl _)];rfl
theorem CZ {m:Mod} (h:kb m=true):validS m.name=true:=by
 rw [rV] at h;simp only [Bool.and_eq_true] at h;exact h.1.1.1.1.1
theorem eN.ker {l:List Mod} (h:eN l):bL ⟨[],l,[],[],0⟩ :=
 ⟨bJ.new fun m hm=>CZ (h.w m hm).ok,Nat.zero_le _,by have:=h.len;show l.length≤1000;omega,fun m hm=>by have:=(h.w m hm).als;have:=(h.w m hm).nds;omega,fun m hm p hp=>by have:=(h.w m hm).alz p hp;omega,by show (0:Int)≤1000000;decide⟩
def kn0:Ker:=⟨[],[⟨⟨#[104,105,100]⟩,[⟨#[117,115,98,58,42]⟩],[],[],[],false⟩],[],[],0⟩
def zC:Opr:=⟨1,⟨#[]⟩,⟨0,0,⟨#[]⟩,⟨#[117,115,98,48]⟩,⟨#[117,115,98]⟩,⟨#[]⟩,⟨#[]⟩,1,0,[]⟩,⟨#[]⟩,⟨#[]⟩⟩
def zD:Opr:=⟨1,⟨#[47,117,115,98,48]⟩,⟨0,0,⟨#[]⟩,⟨#[107,98,100]⟩,⟨#[117,115,98]⟩,⟨#[]⟩,⟨#[117,115,98,58,107]⟩,1,0,[]⟩,⟨#[]⟩,⟨#[]⟩⟩
def xO:Opr:=⟨8,⟨#[]⟩,cL,⟨#[]⟩,⟨#[104,105,100]⟩⟩
attribute [push_cast] zC zD xO
def kn1:Ker:=(bM kn0 zC).1
def kn2:Ker:=(bM kn1 zD).1
def kn3:Ker:=(bM kn2 xO).1
theorem JM:(bM kn0 zC).2=(1,0)∧(bM kn1 zD).2=(2,0)∧(bM kn2 xO).2.2=0∧kn1.evs.length=1∧kn2.evs.length=2∧kn3.evs.length=3∧kn1.top=1∧kn2.top=2∧kn3.evs.drop 2=[⟨3,5,2,⟨#[47,117,115,98,48,47,107,98,100]⟩,⟨#[]⟩⟩]:=by
 refine ⟨?_,?_,?_,?_,?_,?_,?_,?_,?_⟩<;>decide +kernel
theorem FZ {l:List Mod} (h:eN l):ah prog 16 [.c (.sl 6 (l.map Mod.d))] [] fun r os=>r = .two (.c (.ptr 0 0)) (.c (.v (.int .i64 0)))∧os=bI ⟨[],l,[],[],0⟩ :=
 (Cd l (by have:=h.len;omega) fun m hm=>(h.w m hm).fit).mono fun r os h2=>by rw [if_pos h.new] at h2;exact h2
theorem KH {l:List Mod} (h:eN l):ah prog 17 [.c (.sl 6 (l.map Mod.d))] [] fun r os=>r = .two (.agg (Ker.re ⟨[],l,[],[],0⟩)) (.c (.v (.int .i64 0)))∧os=[] :=
 (Ce l (by have:=h.len;omega) fun m hm=>(h.w m hm).fit).mono fun r os h2=>by rw [h.new] at h2;exact h2
theorem uu:eN kn0.mods:=⟨FY (by decide +kernel),by decide +kernel,af⟩
theorem JO:eA zC∧eA zD∧eA xO :=
 ⟨⟨⟨af,af,af,af,af,(fun a ha=>by cases ha),af,af⟩,af,af,af,af⟩,
  ⟨⟨af,af,af,af,af,(fun a ha=>by cases ha),af,af⟩,af,af,af,af⟩,
  ⟨xA,af,af,af,af⟩⟩
set_option maxHeartbeats 8000000 in
theorem gw:ah prog 12 [] [] fun r os=>r = .c (.v (.bool true))∧os=[]:=by
 obtain ⟨r1,r2,r3,l1,l2,l3,t1,t2,hev⟩:=JM;obtain ⟨o1,o2,o3⟩:=JO;have b0:bL kn0:=uu.ker;have b1:bL kn1:=b0.do db zC af af;have b2:bL kn2:=b1.do db zD ac ac;have b3:bL kn3:=b2.do db xO ac ac;have hn:=FZ uu;have d1:=hU kn0 zC b0 o1 af af;have d2:=hU kn1 zD b1 o2 ac ac;have d3:=hU kn2 xO b2 o3 ac ac;have hE:=dV kn3 2 af ac;rw [show dx kn3 2=2 by unfold dx;rw [if_neg af,if_pos (by rw [l3];decide)];rfl,hev] at hE;rw [r1] at d1;rw [r2] at d2;obtain ⟨v3,hv3⟩:∃ v3,(bM kn2 xO).2.1=v3:=⟨_,rfl⟩
 rw [r3,hv3] at d3;rw [show (bM kn0 zC).1=kn1 from rfl] at d1;rw [show (bM kn1 zD).1=kn2 from rfl] at d2;rw [show (bM kn2 xO).1=kn3 from rfl] at d3;refine aw func12 ntmps12 results12 ?_;have hn2:ah prog 16 [.c (.sl 6 (kn0.mods.map Mod.d))] [] fun r os=>r = .two (.c (.ptr 0 0)) (.c (.v (.int .i64 0)))∧os=bI kn0:=hn
 generalize kn3=k3 at *;generalize kn2=k2 at *;generalize kn1=k1 at *;push_cast [O,U];repeat' ((first|refine au ?_|refine pif ?_ ?_<;>intro h<;>try exact pN h)<;>push_cast [O,U])
 refine bX (tr 13 (kn0.mods.map Mod.d) rfl (by simp [kn0,Mod.d,kK,yr,leD,qI,aU])) ?_;push_cast [O,U];(refine plE [] hn2 ?_ ?_<;>push_cast [O,U]);refine fD rfl rfl rfl rfl aj (by first|exact ⟨rfl,af⟩|(simp [bp])) (an ?_);push_cast [O,U];(refine eZ 1 [0,1,2] (d1) ?_ ?_;push_cast [O,U];rintro r os ⟨rfl,rfl⟩;push_cast [O,U]);(refine eZ 1 [0,1,2] (d2) ?_ ?_;push_cast [O,U];rintro r os ⟨rfl,rfl⟩;push_cast [O,U]);(refine eZ 1 [0,1,2] (d3) ?_ ?_;push_cast [O,U];rintro r os ⟨rfl,rfl⟩;push_cast [O,U]);(refine plE [0,1,2] hE ?_ ?_<;>push_cast [O,U]);repeat' ((first|refine au ?_|refine pif ?_ ?_<;>intro h<;>try exact pN h)<;>push_cast [O,U])
 exact am []
set_option maxRecDepth 20000
def xP (r:Ker):List E:=.ptr 0 0 :: .ptr 1 0 :: r.re
def xQ (L:List Int) (q:Nat) (k:Ker):List Ob:=[tape L q,jd 2 3 k,jI k,je k]
attribute [push_cast] xP xQ
def vw (l:List Mod):Ker:=⟨[],l,[],[],0⟩
attribute [push_cast] vw
set_option maxHeartbeats 4000000 in
theorem jQ (L:List Int) (hL:∀ x ∈ L,-9223372036854775808≤x∧x≤9223372036854775807) (hl:L.length≤9223372036854775807) :
  ah prog 18 [.c (.sl 1 (L.map fun x=>[.v (.int .i64 x)]))] [] fun r os=>∃ l:List Mod,eN l∧r = .agg (xP (vw l))∧os=xQ L 8 (vw l):=by
 have hm:=rq L 0 af hL hl;refine aw func18 ntmps18 results18 ?_;push_cast [O,U];repeat' ((first|refine au ?_|refine pif ?_ ?_<;>intro h<;>try exact pN h)<;>push_cast [O,U])
 refine aW false [1] rfl rfl aj hm ?_ nofun ?_
 ·push_cast [O,U]
 rintro r os ⟨l,hs,rfl,rfl⟩;have hS:=eN.of hs;have hn:=FZ hS;have hr:=KH hS;refine an ?_;push_cast [O,U];repeat' ((first|refine aK [] hr ?_|refine aK [] hn ?_|refine au ?_|refine pif ?_ ?_<;>intro h<;>try exact pN h)<;>push_cast [O,U])
 (refine K9 [1,3,4,5] ?_;push_cast [O,U]);exact ⟨_,_,aE _,aB _,l,hS,rfl,rfl⟩
set_option maxRecDepth 20000
structure eJ (n:Nat) (k:Ker):Prop where
 b:bL k
 e:k.evs.length≤256 * n
 t:k.top≤n
theorem eJ.beg {l:List Mod} (h:eN l):eJ 0 (vw l):=⟨h.ker,Nat.le_refl _,Int.le_refl _⟩
theorem eJ.do {n:Nat} {k:Ker} (h:eJ n k) (hn:n≤60) (op:Opr):eJ (n+1) (bM k op).1:=by
 have h1:=h.e;have h2:=h.t;have h3:=E4 db h.b.inv op;have h4:=(jH db k op).2;refine ⟨h.b.do db op ac ac,?_,?_⟩
 ·show (k.doM db op).1.evs.length≤_;omega
 ·show (k.doM db op).1.top≤_;omega
theorem eJ.ixs {n:Nat} {k:Ker} (h:eJ n k) (hn:n≤60):(∀ d ∈ k.tree,d.index≤90000)∧(∀ d ∈ k.tree,0≤d.index)∧(∀ d ∈ k.tree,d.original.size≤1000)∧k.tree.length≤256 :=
 ⟨fun d hd=>by have:=h.b.inv.top d hd;have:=h.t;omega,fun d hd=>by have:=(h.b.small hd).ix;omega,h.b.orig,h.b.len⟩
end
section
open Go.ChangeShapes Go.WideShapes Go.ChangeAt Go.RowKit
inductive Sh where
 | int (k:IntKind)
 | str
 | bool
 | sl (els:List Sh)
mutual
def TD:Sh → D → Prop
 | .int k,d=>∃ n,d = .v (.int k n)∧(Lit.int k n).wf=true
 | .str,d=>∃ s:ByteArray,d = .v (.string s)∧s.size≤maxLen
 | .bool,d=>∃ b,d = .v (.bool b)
 | .sl ss,d=>∃ rows,d = .sl ss.length rows∧rows.length≤maxLen∧∀ r ∈ rows,TR ss r
def TR:List Sh → List D → Prop
 | [],r=>r=[]
 | s :: ss,r=>∃ d r',r=d :: r'∧TD s d∧TR ss r'
end
theorem TR.append:∀ {a b:List Sh} {x y:List D},TR a x → TR b y → TR (a++b) (x++y)
 | [],b,x,y,h1,h2=>by rw [TR] at h1;subst h1;exact h2
 | s :: a,b,x,y,h1,h2=>by
  rw [TR] at h1;obtain ⟨d,r',rfl,h3,h4⟩:=h1;show TR (s :: (a++b)) (d :: (r'++y));rw [TR];exact ⟨d,r'++y,rfl,h3,h4.append h2⟩
theorem TR.len:∀ {a:List Sh} {x:List D},TR a x → x.length=a.length
 | [],x,h=>by rw [TR] at h;subst h;rfl
 | s :: a,x,h=>by
  rw [TR] at h;obtain ⟨d,r',rfl,h3,h4⟩:=h;simp [h4.len]
mutual
def pZ (P:Program):Nat → TypeId → Option (List Sh)
 | 0,_=>none
 | n+1,t=>match P.underlying t with
  | some (.int k)=>some [.int k]
  | some .string=>some [.str]
  | some .bool=>some [.bool]
  | some (.slice e)=>match pZ P n e with
   | some ss=>if 0 < ss.length∧P.cellsOf e=ss.length then some [.sl ss] else none
   | none=>none
  | some (.struct fs)=>match shFs P n fs.toList 0 with
   | some ss=>if P.cellsOf t=ss.length then some ss else none
   | none=>none
  | _=>none
def shFs (P:Program):Nat → List Field → Nat → Option (List Sh)
 | 0,_,_=>none
 | n+1,[],_=>some []
 | n+1,f :: fs,o=>match pZ P n f.type,shFs P n fs (o+P.cellsOf f.type) with
  | some ss,some rest=>if f.offset=o∧P.cellsOf f.type=ss.length then some (ss++rest) else none
  | _,_=>none
end
section
variable {H:Type} {enc:TypeId × Value → H} {P:Program} {W:World}
def qa (W:World) (b:Nat):Prop:=b < W.heap.size
theorem AL {sz n:Nat} {A:Option Addr} {xs:List Value} (h:Rd W (fun _=>True) sz A n xs):Rd W (qa W) sz A n xs :=
 ⟨h.1,fun hn=>by obtain ⟨b,o,h1,_,h2,h3⟩:=h.2 hn;exact ⟨b,o,h1,h2,h2,h3⟩⟩
mutual
theorem F2:∀ (n:Nat) (t:TypeId) (ss:List Sh) (cs:List Value) (fuel:Nat) (y:DataW H × List MemPlace),pZ P n t=some ss → DataW.trod enc P W 0 (fun _=>true) true fuel t cs=some y →
  ∃ ds,TR ss ds∧ay (RD W (qa W)) ds cs
 | 0,t,ss,cs,fuel,y,h,_=>by simp [pZ] at h
 | n+1,t,ss,cs,fuel,y,h,ht=>by
  rw [pZ] at h;split at h
  ·rename_i k hu;cases h;obtain ⟨m,rfl,_,hw⟩:=DataW.trod_int hu ht;refine ⟨[.v (.int k m)],?_,?_⟩
   ·rw [TR];exact ⟨_,_,rfl,by rw [TD];exact ⟨m,rfl,hw⟩,by rw [TR]⟩
   ·exact ⟨by rw [RD];exact ⟨rfl,rfl⟩,trivial⟩
  ·rename_i hu;cases h;obtain ⟨s,rfl,_,hs⟩:=DataW.trod_string hu ht;refine ⟨[.v (.string s)],?_,?_⟩
   ·rw [TR];exact ⟨_,_,rfl,by rw [TD];exact ⟨s,rfl,hs⟩,by rw [TR]⟩
   ·exact ⟨by rw [RD];exact ⟨rfl,rfl⟩,trivial⟩
  ·rename_i hu;cases h;obtain ⟨b,rfl,_⟩:=DataW.trod_bool hu ht;refine ⟨[.v (.bool b)],?_,?_⟩
   ·rw [TR];exact ⟨_,_,rfl,by rw [TD];exact ⟨b,rfl⟩,by rw [TR]⟩
   ·exact ⟨by rw [RD];exact ⟨rfl,rfl⟩,trivial⟩
  ·rename_i e hu;split at h
   ·rename_i es he;split at h
    ·rename_i hc;cases h;have hcs:∃ A len c,cs=[.slice A len c]:=by
      rcases Go.Deep.open_slice hu ht with ⟨h1,_⟩|⟨a,len,cap,m,fu,D,Pl,h1,_⟩
      ·exact ⟨_,_,_,h1⟩
      ·exact ⟨_,_,_,h1⟩
     obtain ⟨A,len,c,rfl⟩:=hcs;obtain ⟨F,h1,h2,h3,h4⟩:=AT hu hc.2 hc.1 ht;have hall:∀ i,i < len → ∃ ds,TR es ds∧ay (RD W (qa W)) ds (F i):=fun i hi=>by
      obtain ⟨_,m,y',hy⟩:=h3 i hi;exact F2 n e es (F i) m y' he hy
     obtain ⟨G,hG⟩:=Go.Deep.choose_lt (n:=len) (p:=fun i ds=>TR es ds∧ay (RD W (qa W)) ds (F i)) hall;have hrows:∀ k,k≤len → ay (RD W (qa W)) ((List.range k).map G).flatten ((List.range k).flatMap F):=by
      intro k;induction k with
      | zero=>intro _;trivial
      | succ k ih =>
       intro hk;rw [List.range_succ,List.map_append,List.flatten_append,List.flatMap_append];exact (ih ac).append (by simpa using (hG k ac).2)
     have hlen:((List.range len).map G).length=len:=by simp
     refine ⟨[.sl es.length ((List.range len).map G)],?_,?_⟩
     ·rw [TR];refine ⟨_,_,rfl,?_,by rw [TR]⟩;rw [TD];refine ⟨_,rfl,by rw [hlen];exact Nat.le_trans h1 h2,fun r hr=>?_⟩;obtain ⟨i,hi,rfl⟩:=List.mem_map.1 hr;exact (hG i (List.mem_range.1 hi)).1
     ·refine ⟨?_,trivial⟩;rw [dB];refine ⟨A,c,_,by rw [hlen],by rw [hlen];exact h1,by rw [hlen];exact AL h4,?_⟩;refine ⟨fun r hr=>?_,hrows len (Nat.le_refl _)⟩;obtain ⟨i,hi,rfl⟩:=List.mem_map.1 hr;exact (hG i (List.mem_range.1 hi)).1.len
    ·cases h
   ·cases h
  ·rename_i fs hu;split at h
   ·rename_i ss' hfs;split at h
    ·rename_i hc;cases h;obtain ⟨xs,m,_,_,hl,hlen,hf⟩:=DataW.trod_struct hu ht;obtain ⟨ds,h1,h2⟩:=shFs_ok n fs.toList 0 ss cs hfs ac (fun i f hi=>by
      have h1:=hf i f (by simpa using hi);have hi2:i < xs.length:=by
       have:=(List.getElem?_eq_some_iff.1 hi).1;simp at this;omega
      rw [List.getElem?_eq_getElem hi2] at h1;exact ⟨_,_,h1⟩)
     refine ⟨ds,h1,?_⟩;rw [List.drop_zero,List.take_of_length_le ac] at h2;exact h2
    ·cases h
   ·cases h
  ·cases h
theorem shFs_ok:∀ (n:Nat) (fs:List Field) (o:Nat) (ss:List Sh) (cs:List Value),shFs P n fs o=some ss → o+ss.length≤cs.length →
  (∀ (i:Nat) (f:Field),fs[i]? = some f → ∃ m y,DataW.trod enc P W 0 (fun _=>true) true m f.type ((cs.drop f.offset).take (P.cellsOf f.type))=some y) →
  ∃ ds,TR ss ds∧ay (RD W (qa W)) ds ((cs.drop o).take ss.length)
 | 0,fs,o,ss,cs,h,_,_=>by simp [shFs] at h
 | n+1,[],o,ss,cs,h,_,_=>by
  rw [shFs] at h;cases h;exact ⟨[],by rw [TR],by simp [ay]⟩
 | n+1,f :: fs,o,ss,cs,h,hle,hf=>by
  rw [shFs] at h;split at h
  ·rename_i s1 s2 h1 h2;split at h
   ·rename_i hc;cases h;rw [List.length_append] at hle;obtain ⟨m,y,hy⟩:=hf 0 f rfl;rw [hc.1,hc.2] at hy;obtain ⟨d1,t1,a1⟩:=F2 n f.type s1 _ m y h1 hy;obtain ⟨d2,t2,a2⟩:=shFs_ok n fs (o+P.cellsOf f.type) s2 cs h2 ac (fun i g hi=>hf (i+1) g (by simpa using hi));refine ⟨d1++d2,t1.append t2,?_⟩;rw [List.length_append,List.take_add,List.drop_drop,← hc.2];have:=a1.append (by simpa using a2);rw [hc.2] at this ⊢;exact this
   ·cases h
  ·cases h
end
end
def G0 (W:World):G:=⟨0,fun _=>0,fun _=>0,qa W⟩
theorem K8 {W:World} (hp:Pin W) (hb:∀ b,Dk b → b < W.heap.size):bz (G0 W) [] W :=
 ⟨rfl,fun k o h=>by simp at h,fun k k' h=>absurd h (by simp [G0]),fun k h=>absurd h (by simp [G0]),fun b h=>h,hp,hb⟩
theorem eU {P:Program} {g:FuncId} {args:List PV} {vs:Array Value} {W:World} {v:Value} (h:ah P g args [] fun r os=>r = .c (.v v)∧os=[]) (hp:Pin W) (hb:∀ b,Dk b → b < W.heap.size)
  (hx:ay (RP W (G0 W)) args vs.toList):Calls P g vs W fun e W'=>e = .returned v∧Ext No W W':=by
 have:=h (G0 W) W vs.toList (K8 hp hb) hx;rw [Array.toArray_toList] at this;refine this.mono ?_;rintro e w' ⟨r,os',Γ',y,rfl,⟨rfl,_⟩,hr,_,_,hg⟩;have h1:y=v:=hr.1;subst h1;exact ⟨rfl,hg.ext.mono fun b ⟨k,hk,_⟩=>absurd hk (by simp [G0])⟩
section
variable {H:Type} {enc:TypeId × Value → H} {P:Program} {W:World}
theorem nR {base:Nat} {t e:TypeId} {v:Value} {d:DataW H} {ps:List MemPlace} (n:Nat) (ss:List Sh) (ht:P.underlying t=some (.slice e)) (hs:pZ P n t=some [.sl ss]) (hv:Value.okWide P W .any base t v) (h:DataW.Trod enc P W 0 (fun _=>true) true t v d ps) :
  ∃ rows,rows.length≤maxLen∧(∀ r ∈ rows,TR ss r)∧RP W (G0 W) (.c (.sl ss.length rows)) v:=by
 obtain ⟨A,len,c,rfl⟩:=okWide_slice ht hv;obtain ⟨fuel,hf⟩:=h;obtain ⟨ds,h1,h2⟩:=F2 n t [.sl ss] [.slice A len c] fuel _ hs (by simpa [Value.cells] using hf);rw [TR] at h1;obtain ⟨d',r',rfl,h3,h4⟩:=h1;rw [TR] at h4;subst h4;rw [TD] at h3;obtain ⟨rows,rfl,h5,h6⟩:=h3;exact ⟨rows,h5,h6,h2.1⟩
end
theorem nS {rows:List (List D)} (h:∀ r ∈ rows,TR [.int .i64] r):∃ L:List Int,rows=L.map (fun x=>[D.v (.int .i64 x)])∧∀ x ∈ L,-9223372036854775808≤x∧x≤9223372036854775807:=by
 induction rows with
 | nil=>exact ⟨[],rfl,by simp⟩
 | cons r rows ih =>
  obtain ⟨L,rfl,h2⟩:=ih fun r' hr'=>h r' (by simp [hr'])
  have h1:=h r (by simp);simp only [TR,TD] at h1;obtain ⟨_,_,rfl,⟨n,rfl,hn⟩,rfl⟩:=h1;refine ⟨n :: L,rfl,fun x hx=>?_⟩;rcases List.mem_cons.1 hx with rfl|hx
  ·exact IE hn
  ·exact h2 x hx
theorem nT:pZ prog 30 23=some [.sl [.int .i64]]:=aj
theorem AM {w:World} (h:w.ShapedOpen prog):Pin w :=
 Go.Proofs.cell_of_shapedOpen_int (zero := #[.int .i64 0]) (t:=3) h (of_decide_eq_true aj) aj rfl aj aj underlying3
theorem Ii {w:World} (h:Pin w):0 < w.heap.size:=by
 obtain ⟨m,hm⟩:=h;rcases Nat.eq_zero_or_pos w.heap.size with h0|h0
 ·rw [World.cell?,Array.getElem?_eq_none (by rw [h0];exact Nat.le_refl _)] at hm;simp at hm
 ·exact h0
theorem dZ {W:World} (hsh:W.ShapedOpen prog):Pin W∧∀ b,Dk b → b < W.heap.size :=
 ⟨AM hsh,fun b hb=>by have h:b=0:=hb;subst h;exact Ii (AM hsh)⟩
end
section
attribute [local irreducible] PL QL aL ah bg La aV PA
open Go.RowKit
open IntWalk renaming iteOmega → O, toNatUp → U
set_option maxRecDepth 20000
theorem pP (l:List Dev) (n top:Int) (hl:l.length≤1000000) :
  ah prog 222 [.agg (trE l),.c (.v (.int .i64 n)),.c (.v (.int .i64 top))] [] fun r os=>r = .c (.v (.bool (bO l n top)))∧os=[]:=by
 have hc:=kV l n hl;have hcl:=lD l n;unfold bO;obtain ⟨c,hcc⟩:∃ c,dy l n=c:=⟨_,rfl⟩
 rw [hcc] at hc hcl ⊢;have hi:=fl c top ac;have he:=HK (c:=c) (n:=top);refine aw func222 ntmps222 results222 ?_;push_cast [O,U];repeat' ((first|refine aK [] hc ?_|refine aK [] hi ?_|refine au ?_|refine pif ?_ ?_<;>intro h<;>try exact pN h)<;>push_cast [O,U])
 (refine K9 [] ?_;push_cast [O,U,he])
set_option maxHeartbeats 4000000 in
theorem C0 (l:List Dev) (n:Int) (hl:l.length≤1000000) :
  ah prog 192 [.agg (trE l),.c (.v (.int .i64 n))] [] fun r os=>r = .two (.agg (trE (if (aG l n).isSome then fp l n else []))) (.c (.v (.int .i64 (if (aG l n).isSome then 0 else 45))))∧os=[]:=by
 have hi:=fl l n ac;refine aw func192 ntmps192 results192 ?_;rcases dY n l with ⟨h1,h2⟩|⟨i,h1,h2,h3⟩
 ·rw [h1] at hi;rw [h2];push_cast [O,U];repeat' ((first|refine aK [] hi ?_|refine au ?_|refine pif ?_ ?_<;>intro h<;>try exact pN h)<;>push_cast [O,U])
  (refine K9 [] ?_;push_cast [O,U]);all_goals exact ⟨rfl,rfl⟩
 ·rw [h1] at hi;rw [h3];simp only [Option.isSome_some,if_true];push_cast [O,U];have cB:aH 8 []:=trivial;repeat' ((first|refine aK [] hi ?_|refine ae ?_|refine pif ?_ ?_<;>intro h<;>try exact pN h)<;>push_cast [O,U])
  refine aF (bP 2 0 53 10 ac 41 [.v (.slice none 0 0)] rfl rfl) ?_;push_cast [O,U];(apply ap (α:=Nat) 8 [] (fun k=>[(7,.c (.v (.int .i64 k)))]) (fun k=>[(2,.box 41 [.own 3 (rL l n k).length]),(3,.arr 53 10 ((rL l n k).map Dev.d))]) (fun k=>k≤l.length) (fun k=>l.length - k) (0);(focus ((try push_cast [O,U]);rfl));(focus exact ac);(focus ((refine weak_fg ?_;try push_cast [O,U]);(try (exact ⟨rfl,rfl⟩)))));intro k hk;push_cast [O,U];by_cases hlt:k < l.length
  ·have hb:=pP l (l.getD k default).index n hl;have hrl:=Fg l n k;cases hbm:bO l (l.getD k default).index n
   ·rw [hbm] at hb;have he:=Jx hlt hbm;repeat' ((first|(refine aQ false rfl rfl aj (hb) (fun r os h=>h.1) rfl ?_ ?_;push_cast [O,U];refine aD ?_;push_cast [O,U])|(refine av 8 [] ?_;apply ak;(focus kernel_rfl);(focus (simp only [aP,Nat.reduceAdd];(repeat' first|((first|refine pah 0 ?_|refine pah 2 ?_|refine pah 4 ?_|refine pah 5 ?_|refine pah 9 ?_);push_cast [O,U])|(refine pad ?_;first|with_reducible exact ao 8 [] _|(refine weak_fg ?_;push_cast [O,U]))|((first|refine pas [1] ?_|refine pas [3] ?_|refine pas [6] ?_|refine pas [7] ?_|refine pas [8] ?_|refine pas [10] ?_);push_cast [O,U])|((first|refine pas [1,3] ?_|refine pas [1,6] ?_|refine pas [1,7] ?_);push_cast [O,U];refine ⟨?_,?_⟩));done));push_cast [O,U])|refine ae ?_|refine pif ?_ ?_<;>intro h<;>try exact pN h)<;>push_cast [O,U])
    exact ⟨k+1,ac,by (refine weak_fg ?_;push_cast [O,U,he]),ac⟩
   ·rw [hbm] at hb;have he:=Jy hlt hbm;repeat' ((first|(refine aQ false rfl rfl aj (hb) (fun r os h=>h.1) rfl ?_ ?_;push_cast [O,U];refine aD ?_;push_cast [O,U])|refine ae ?_|refine pif ?_ ?_<;>intro h<;>try exact pN h)<;>push_cast [O,U])
    exact ⟨k+1,ac,by (refine weak_fg ?_;push_cast [O,U,he]),ac⟩
  ·have he:rL l n k=fp l n:=by unfold rL fp;rw [List.take_of_length_le ac]
   rw [he];repeat' ((first|refine ae ?_|refine pif ?_ ?_<;>intro h<;>try exact pN h)<;>push_cast [O,U])
   exact am []
end
end Go.Proofs.YtmbbkfffcflfcaaGreatDoor
