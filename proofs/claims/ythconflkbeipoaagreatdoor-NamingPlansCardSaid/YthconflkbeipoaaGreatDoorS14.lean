/- What the program computes, and the plain laws of it, part 14. -/
import Derived.Test.YthconflkbeipoaaGreatDoorProg
import Derived.Orders
import Derived.Test.YthconflkbeipoaaGreatDoorS13
namespace Go.Proofs.YthconflkbeipoaaGreatDoor
open Go.ChangeShapes Go.WideShapes Go.ChangeAt Go.RowKit
set_option linter.unusedVariables false
set_option linter.unusedSimpArgs false
inductive Sh where
 | int (k:IntKind)
 | str
 | bool
 | sl (els:List Sh)
mutual
def TD:Sh → D → Prop
 | .int k,d=>∃ n,d = .v (.int k n)∧(Lit.int k n).wf=true
 | .str,d=>∃ s:ByteArray,d = .v (.string s)∧s.size≤maxLen
 | .bool,d=>∃ b,d = .v (.bool b)
 | .sl ss,d=>∃ rows,d = .sl ss.length rows∧rows.length≤maxLen∧∀ r ∈ rows,TR ss r
def TR:List Sh → List D → Prop
 | [],r=>r=[]
 | s :: ss,r=>∃ d r',r=d :: r'∧TD s d∧TR ss r'
end
theorem TR.append:∀ {a b:List Sh} {x y:List D},TR a x → TR b y → TR (a++b) (x++y)
 | [],b,x,y,h1,h2=>by rw [TR] at h1;subst h1;exact h2
 | s :: a,b,x,y,h1,h2=>by
  rw [TR] at h1
  obtain ⟨d,r',rfl,h3,h4⟩:=h1
  show TR (s :: (a++b)) (d :: (r'++y))
  rw [TR]
  exact ⟨d,r'++y,rfl,h3,h4.append h2⟩
theorem TR.len:∀ {a:List Sh} {x:List D},TR a x → x.length=a.length
 | [],x,h=>by rw [TR] at h;subst h;rfl
 | s :: a,x,h=>by
  rw [TR] at h
  obtain ⟨d,r',rfl,h3,h4⟩:=h
  simp [h4.len]
mutual
def shOf (P:Program):Nat → TypeId → Option (List Sh)
 | 0,_=>none
 | n+1,t=>match P.underlying t with
  | some (.int k)=>some [.int k]
  | some .string=>some [.str]
  | some .bool=>some [.bool]
  | some (.slice e)=>match shOf P n e with
   | some ss=>if 0 < ss.length∧P.cellsOf e=ss.length then some [.sl ss] else none
   | none=>none
  | some (.struct fs)=>match shFs P n fs.toList 0 with
   | some ss=>if P.cellsOf t=ss.length then some ss else none
   | none=>none
  | _=>none
def shFs (P:Program):Nat → List Field → Nat → Option (List Sh)
 | 0,_,_=>none
 | n+1,[],_=>some []
 | n+1,f :: fs,o=>match shOf P n f.type,shFs P n fs (o+P.cellsOf f.type) with
  | some ss,some rest=>if f.offset=o∧P.cellsOf f.type=ss.length then some (ss++rest) else none
  | _,_=>none
end
section
variable {H:Type} {enc:TypeId × Value → H} {P:Program} {W:World}
def Here (W:World) (b:Nat):Prop:=b < W.heap.size
theorem rd_here {sz n:Nat} {A:Option Addr} {xs:List Value} (h:Rd W (fun _=>True) sz A n xs):Rd W (Here W) sz A n xs :=
 ⟨h.1,fun hn=>by obtain ⟨b,o,h1,_,h2,h3⟩:=h.2 hn;exact ⟨b,o,h1,h2,h2,h3⟩⟩
mutual
theorem sh_ok:∀ (n:Nat) (t:TypeId) (ss:List Sh) (cs:List Value) (fuel:Nat) (y:DataW H × List MemPlace),shOf P n t=some ss → DataW.trod enc P W 0 (fun _=>true) true fuel t cs=some y →
  ∃ ds,TR ss ds∧All2 (RD W (Here W)) ds cs
 | 0,t,ss,cs,fuel,y,h,_=>by simp [shOf] at h
 | n+1,t,ss,cs,fuel,y,h,ht=>by
  rw [shOf] at h
  split at h
  ·rename_i k hu
   cases h
   obtain ⟨m,rfl,_,hw⟩:=DataW.trod_int hu ht
   refine ⟨[.v (.int k m)],?_,?_⟩
   ·rw [TR];exact ⟨_,_,rfl,by rw [TD];exact ⟨m,rfl,hw⟩,by rw [TR]⟩
   ·exact ⟨by rw [RD];exact ⟨rfl,rfl⟩,trivial⟩
  ·rename_i hu
   cases h
   obtain ⟨s,rfl,_,hs⟩:=DataW.trod_string hu ht
   refine ⟨[.v (.string s)],?_,?_⟩
   ·rw [TR];exact ⟨_,_,rfl,by rw [TD];exact ⟨s,rfl,hs⟩,by rw [TR]⟩
   ·exact ⟨by rw [RD];exact ⟨rfl,rfl⟩,trivial⟩
  ·rename_i hu
   cases h
   obtain ⟨b,rfl,_⟩:=DataW.trod_bool hu ht
   refine ⟨[.v (.bool b)],?_,?_⟩
   ·rw [TR];exact ⟨_,_,rfl,by rw [TD];exact ⟨b,rfl⟩,by rw [TR]⟩
   ·exact ⟨by rw [RD];exact ⟨rfl,rfl⟩,trivial⟩
  ·rename_i e hu
   split at h
   ·rename_i es he
    split at h
    ·rename_i hc
     cases h
     have hcs:∃ A len c,cs=[.slice A len c]:=by
      rcases Go.Deep.open_slice hu ht with ⟨h1,_⟩|⟨a,len,cap,m,fu,D,Pl,h1,_⟩
      ·exact ⟨_,_,_,h1⟩
      ·exact ⟨_,_,_,h1⟩
     obtain ⟨A,len,c,rfl⟩:=hcs
     obtain ⟨F,h1,h2,h3,h4⟩:=trod_rows hu hc.2 hc.1 ht
     have hall:∀ i,i < len → ∃ ds,TR es ds∧All2 (RD W (Here W)) ds (F i):=fun i hi=>by
      obtain ⟨_,m,y',hy⟩:=h3 i hi
      exact sh_ok n e es (F i) m y' he hy
     obtain ⟨G,hG⟩:=Go.Deep.choose_lt (n:=len) (p:=fun i ds=>TR es ds∧All2 (RD W (Here W)) ds (F i)) hall
     have hrows:∀ k,k≤len → All2 (RD W (Here W)) ((List.range k).map G).flatten ((List.range k).flatMap F):=by
      intro k
      induction k with
      | zero=>intro _;trivial
      | succ k ih =>
       intro hk
       rw [List.range_succ,List.map_append,List.flatten_append,List.flatMap_append]
       exact (ih (by omega)).append (by simpa using (hG k (by omega)).2)
     have hlen:((List.range len).map G).length=len:=by simp
     refine ⟨[.sl es.length ((List.range len).map G)],?_,?_⟩
     ·rw [TR]
      refine ⟨_,_,rfl,?_,by rw [TR]⟩
      rw [TD]
      refine ⟨_,rfl,by rw [hlen];exact Nat.le_trans h1 h2,fun r hr=>?_⟩
      obtain ⟨i,hi,rfl⟩:=List.mem_map.1 hr
      exact (hG i (List.mem_range.1 hi)).1
     ·refine ⟨?_,trivial⟩
      rw [rd_sl]
      refine ⟨A,c,_,by rw [hlen],by rw [hlen];exact h1,by rw [hlen];exact rd_here h4,?_⟩
      refine ⟨fun r hr=>?_,hrows len (Nat.le_refl _)⟩
      obtain ⟨i,hi,rfl⟩:=List.mem_map.1 hr
      exact (hG i (List.mem_range.1 hi)).1.len
    ·cases h
   ·cases h
  ·rename_i fs hu
   split at h
   ·rename_i ss' hfs
    split at h
    ·rename_i hc
     cases h
     obtain ⟨xs,m,_,_,hl,hlen,hf⟩:=DataW.trod_struct hu ht
     obtain ⟨ds,h1,h2⟩:=shFs_ok n fs.toList 0 ss cs hfs (by omega) (fun i f hi=>by
      have h1:=hf i f (by simpa using hi)
      have hi2:i < xs.length:=by
       have:=(List.getElem?_eq_some_iff.1 hi).1
       simp at this
       omega
      rw [List.getElem?_eq_getElem hi2] at h1
      exact ⟨_,_,h1⟩)
     refine ⟨ds,h1,?_⟩
     rw [List.drop_zero,List.take_of_length_le (by omega)] at h2
     exact h2
    ·cases h
   ·cases h
  ·cases h
theorem shFs_ok:∀ (n:Nat) (fs:List Field) (o:Nat) (ss:List Sh) (cs:List Value),shFs P n fs o=some ss → o+ss.length≤cs.length →
  (∀ (i:Nat) (f:Field),fs[i]? = some f → ∃ m y,DataW.trod enc P W 0 (fun _=>true) true m f.type ((cs.drop f.offset).take (P.cellsOf f.type))=some y) →
  ∃ ds,TR ss ds∧All2 (RD W (Here W)) ds ((cs.drop o).take ss.length)
 | 0,fs,o,ss,cs,h,_,_=>by simp [shFs] at h
 | n+1,[],o,ss,cs,h,_,_=>by
  rw [shFs] at h
  cases h
  exact ⟨[],by rw [TR],by simp [All2]⟩
 | n+1,f :: fs,o,ss,cs,h,hle,hf=>by
  rw [shFs] at h
  split at h
  ·rename_i s1 s2 h1 h2
   split at h
   ·rename_i hc
    cases h
    rw [List.length_append] at hle
    obtain ⟨m,y,hy⟩:=hf 0 f rfl
    rw [hc.1,hc.2] at hy
    obtain ⟨d1,t1,a1⟩:=sh_ok n f.type s1 _ m y h1 hy
    obtain ⟨d2,t2,a2⟩:=shFs_ok n fs (o+P.cellsOf f.type) s2 cs h2 (by omega) (fun i g hi=>hf (i+1) g (by simpa using hi))
    refine ⟨d1++d2,t1.append t2,?_⟩
    rw [List.length_append,List.take_add,List.drop_drop,← hc.2]
    have:=a1.append (by simpa using a2)
    rw [hc.2] at this ⊢
    exact this
   ·cases h
  ·cases h
end
end
def G0 (W:World):G:=⟨0,fun _=>0,fun _=>0,Here W⟩
theorem mem0 {W:World} (hp:Pin W) (hb:∀ b,PinB b → b < W.heap.size):MemOk (G0 W) [] W :=
 ⟨rfl,fun k o h=>by simp at h,fun k k' h=>absurd h (by simp [G0]),fun k h=>absurd h (by simp [G0]),fun b h=>h,hp,hb⟩
theorem calls_of_pure {P:Program} {g:FuncId} {args:List PV} {vs:Array Value} {W:World} {v:Value} (h:PCalls P g args [] fun r os=>r = .c (.v v)∧os=[]) (hp:Pin W) (hb:∀ b,PinB b → b < W.heap.size)
  (hx:All2 (RP W (G0 W)) args vs.toList):Calls P g vs W fun e W'=>e = .returned v∧Ext No W W':=by
 have:=h (G0 W) W vs.toList (mem0 hp hb) hx
 rw [Array.toArray_toList] at this
 refine this.mono ?_
 rintro e w' ⟨r,os',Γ',y,rfl,⟨rfl,_⟩,hr,_,_,hg⟩
 have h1:y=v:=hr.1
 subst h1
 exact ⟨rfl,hg.ext.mono fun b ⟨k,hk,_⟩=>absurd hk (by simp [G0])⟩
section
variable {H:Type} {enc:TypeId × Value → H} {P:Program} {W:World}
theorem open_sl {base:Nat} {t e:TypeId} {v:Value} {d:DataW H} {ps:List MemPlace} (n:Nat) (ss:List Sh) (ht:P.underlying t=some (.slice e)) (hs:shOf P n t=some [.sl ss]) (hv:Value.okWide P W .any base t v) (h:DataW.Trod enc P W 0 (fun _=>true) true t v d ps) :
  ∃ rows,rows.length≤maxLen∧(∀ r ∈ rows,TR ss r)∧RP W (G0 W) (.c (.sl ss.length rows)) v:=by
 obtain ⟨A,len,c,rfl⟩:=okWide_slice ht hv
 obtain ⟨fuel,hf⟩:=h
 obtain ⟨ds,h1,h2⟩:=sh_ok n t [.sl ss] [.slice A len c] fuel _ hs (by simpa [Value.cells] using hf)
 rw [TR] at h1
 obtain ⟨d',r',rfl,h3,h4⟩:=h1
 rw [TR] at h4
 subst h4
 rw [TD] at h3
 obtain ⟨rows,rfl,h5,h6⟩:=h3
 exact ⟨rows,h5,h6,h2.1⟩
end
theorem ints_of {rows:List (List D)} (h:∀ r ∈ rows,TR [.int .i64] r):∃ L:List Int,rows=L.map (fun x=>[D.v (.int .i64 x)])∧∀ x ∈ L,-9223372036854775808≤x∧x≤9223372036854775807:=by
 induction rows with
 | nil=>exact ⟨[],rfl,by simp⟩
 | cons r rows ih =>
  obtain ⟨L,rfl,h2⟩:=ih fun r' hr'=>h r' (by simp [hr'])
  have h1:=h r (by simp)
  simp only [TR,TD] at h1
  obtain ⟨_,_,rfl,⟨n,rfl,hn⟩,rfl⟩:=h1
  refine ⟨n :: L,rfl,fun x hx=>?_⟩
  rcases List.mem_cons.1 hx with rfl|hx
  ·exact int_bd hn
  ·exact h2 x hx
end Go.Proofs.YthconflkbeipoaaGreatDoor
namespace Go.Proofs.YthconflkbeipoaaGreatDoor
open Go.RowKit
theorem tab3:szOf Tryz.prog 3=some 1∧aggOf Tryz.prog 3=some false∧bytOf Tryz.prog 3=some 8∧zerOf Tryz.prog 3=some [.v (.int .i64 0)]∧zvOf Tryz.prog 3=some (.c (.v (.int .i64 0)))∧intOf? Tryz.prog 3=some .i64:=by and_intros<;>kernel_rfl
theorem tab4:szOf Tryz.prog 4=some 1∧aggOf Tryz.prog 4=some false∧bytOf Tryz.prog 4=some 1∧zerOf Tryz.prog 4=some [.v (.bool false)]∧zvOf Tryz.prog 4=some (.c (.v (.bool false)))∧isBool Tryz.prog 4=true:=by and_intros<;>kernel_rfl
theorem tab9:szOf Tryz.prog 9=some 1∧aggOf Tryz.prog 9=some false∧bytOf Tryz.prog 9=some 16∧zerOf Tryz.prog 9=some [.v (.string ⟨#[]⟩)]∧zvOf Tryz.prog 9=some (.c (.v (.string ⟨#[]⟩)))∧isStr Tryz.prog 9=true:=by and_intros<;>kernel_rfl
theorem tab22:szOf Tryz.prog 22=some 1∧aggOf Tryz.prog 22=some false∧bytOf Tryz.prog 22=some 24∧zerOf Tryz.prog 22=some [.v (.slice none 0 0)]∧zvOf Tryz.prog 22=some (.c (.v (.slice none 0 0)))∧isSl Tryz.prog 22=true∧elOf Tryz.prog 22=some (3,1)∧isBytes Tryz.prog 22=false:=by and_intros<;>kernel_rfl
theorem tab25:szOf Tryz.prog 25=some 2∧aggOf Tryz.prog 25=some true∧bytOf Tryz.prog 25=some 32∧zerOf Tryz.prog 25=some [.v (.slice none 0 0),.v (.int .i64 0)]∧zvOf Tryz.prog 25=some (.agg [.v (.slice none 0 0),.v (.int .i64 0)])∧fldOf Tryz.prog 25 0=some (0,22)∧fldOf Tryz.prog 25 1=some (1,3)∧plcOf Tryz.prog 25=some [(0,1),(1,1)]:=by and_intros<;>kernel_rfl
theorem tab26:szOf Tryz.prog 26=some 1∧aggOf Tryz.prog 26=some false∧bytOf Tryz.prog 26=some 24∧zerOf Tryz.prog 26=some [.v (.slice none 0 0)]∧zvOf Tryz.prog 26=some (.c (.v (.slice none 0 0)))∧isSl Tryz.prog 26=true∧elOf Tryz.prog 26=some (36,2)∧isBytes Tryz.prog 26=false:=by and_intros<;>kernel_rfl
theorem tab28:szOf Tryz.prog 28=some 1∧aggOf Tryz.prog 28=some false∧bytOf Tryz.prog 28=some 24∧zerOf Tryz.prog 28=some [.v (.slice none 0 0)]∧zvOf Tryz.prog 28=some (.c (.v (.slice none 0 0)))∧isSl Tryz.prog 28=true∧elOf Tryz.prog 28=some (33,2)∧isBytes Tryz.prog 28=false:=by and_intros<;>kernel_rfl
theorem tab33:szOf Tryz.prog 33=some 2∧aggOf Tryz.prog 33=some true∧bytOf Tryz.prog 33=some 32∧zerOf Tryz.prog 33=some [.v (.string ⟨#[]⟩),.v (.string ⟨#[]⟩)]∧zvOf Tryz.prog 33=some (.agg [.v (.string ⟨#[]⟩),.v (.string ⟨#[]⟩)])∧fldOf Tryz.prog 33 0=some (0,9)∧fldOf Tryz.prog 33 1=some (1,9)∧plcOf Tryz.prog 33=some [(0,1),(1,1)]∧eqKinds Tryz.prog 33=some [.str,.str]:=by and_intros<;>kernel_rfl
theorem tab34:szOf Tryz.prog 34=some 1∧aggOf Tryz.prog 34=some false∧bytOf Tryz.prog 34=some 24∧zerOf Tryz.prog 34=some [.v (.slice none 0 0)]∧zvOf Tryz.prog 34=some (.c (.v (.slice none 0 0)))∧isSl Tryz.prog 34=true∧elOf Tryz.prog 34=some (9,1)∧isBytes Tryz.prog 34=false:=by and_intros<;>kernel_rfl
theorem tab36:szOf Tryz.prog 36=some 2∧aggOf Tryz.prog 36=some true∧bytOf Tryz.prog 36=some 40∧zerOf Tryz.prog 36=some [.v (.string ⟨#[]⟩),.v (.slice none 0 0)]∧zvOf Tryz.prog 36=some (.agg [.v (.string ⟨#[]⟩),.v (.slice none 0 0)])∧fldOf Tryz.prog 36 0=some (0,9)∧fldOf Tryz.prog 36 1=some (1,34)∧plcOf Tryz.prog 36=some [(0,1),(1,1)]:=by and_intros<;>kernel_rfl
theorem tab45:szOf Tryz.prog 45=some 1∧aggOf Tryz.prog 45=some false∧bytOf Tryz.prog 45=some 24∧zerOf Tryz.prog 45=some [.v (.slice none 0 0)]∧zvOf Tryz.prog 45=some (.c (.v (.slice none 0 0)))∧isSl Tryz.prog 45=true∧elOf Tryz.prog 45=some (49,10)∧isBytes Tryz.prog 45=false:=by and_intros<;>kernel_rfl
theorem tab47:szOf Tryz.prog 47=some 1∧aggOf Tryz.prog 47=some true∧bytOf Tryz.prog 47=some 24∧zerOf Tryz.prog 47=some [.v (.slice none 0 0)]∧zvOf Tryz.prog 47=some (.agg [.v (.slice none 0 0)])∧fldOf Tryz.prog 47 0=some (0,45)∧plcOf Tryz.prog 47=some [(0,1)]:=by and_intros<;>kernel_rfl
theorem tab49:szOf Tryz.prog 49=some 10∧aggOf Tryz.prog 49=some true∧bytOf Tryz.prog 49=some 136∧zerOf Tryz.prog 49=some [.v (.int .i64 0),.v (.int .i64 0),.v (.string ⟨#[]⟩),.v (.string ⟨#[]⟩),.v (.string ⟨#[]⟩),.v (.string ⟨#[]⟩),.v (.string ⟨#[]⟩),.v (.int .i64 0),.v (.int .i64 0),.v (.slice none 0 0)]∧zvOf Tryz.prog 49=some (.agg [.v (.int .i64 0),.v (.int .i64 0),.v (.string ⟨#[]⟩),.v (.string ⟨#[]⟩),.v (.string ⟨#[]⟩),.v (.string ⟨#[]⟩),.v (.string ⟨#[]⟩),.v (.int .i64 0),.v (.int .i64 0),.v (.slice none 0 0)])∧fldOf Tryz.prog 49 0=some (0,3)∧fldOf Tryz.prog 49 1=some (1,3)∧fldOf Tryz.prog 49 2=some (2,9)∧fldOf Tryz.prog 49 3=some (3,9)∧fldOf Tryz.prog 49 4=some (4,9)∧fldOf Tryz.prog 49 5=some (5,9)∧fldOf Tryz.prog 49 6=some (6,9)∧fldOf Tryz.prog 49 7=some (7,3)∧fldOf Tryz.prog 49 8=some (8,3)∧fldOf Tryz.prog 49 9=some (9,28)∧plcOf Tryz.prog 49=some [(0,1),(1,1),(2,1),(3,1),(4,1),(5,1),(6,1),(7,1),(8,1),(9,1)]:=by and_intros<;>kernel_rfl
theorem tab52:szOf Tryz.prog 52=some 1∧aggOf Tryz.prog 52=some false∧bytOf Tryz.prog 52=some 24∧zerOf Tryz.prog 52=some [.v (.slice none 0 0)]∧zvOf Tryz.prog 52=some (.c (.v (.slice none 0 0)))∧isSl Tryz.prog 52=true∧elOf Tryz.prog 52=some (62,3)∧isBytes Tryz.prog 52=false:=by and_intros<;>kernel_rfl
theorem tab57:szOf Tryz.prog 57=some 1∧aggOf Tryz.prog 57=some false∧bytOf Tryz.prog 57=some 24∧zerOf Tryz.prog 57=some [.v (.slice none 0 0)]∧zvOf Tryz.prog 57=some (.c (.v (.slice none 0 0)))∧isSl Tryz.prog 57=true∧elOf Tryz.prog 57=some (92,12)∧isBytes Tryz.prog 57=false:=by and_intros<;>kernel_rfl
theorem tab60:szOf Tryz.prog 60=some 1∧aggOf Tryz.prog 60=some false∧bytOf Tryz.prog 60=some 24∧zerOf Tryz.prog 60=some [.v (.slice none 0 0)]∧zvOf Tryz.prog 60=some (.c (.v (.slice none 0 0)))∧isSl Tryz.prog 60=true∧elOf Tryz.prog 60=some (28,1)∧isBytes Tryz.prog 60=false:=by and_intros<;>kernel_rfl
theorem tab62:szOf Tryz.prog 62=some 3∧aggOf Tryz.prog 62=some true∧bytOf Tryz.prog 62=some 48∧zerOf Tryz.prog 62=some [.v (.string ⟨#[]⟩),.v (.string ⟨#[]⟩),.v (.string ⟨#[]⟩)]∧zvOf Tryz.prog 62=some (.agg [.v (.string ⟨#[]⟩),.v (.string ⟨#[]⟩),.v (.string ⟨#[]⟩)])∧fldOf Tryz.prog 62 0=some (0,9)∧fldOf Tryz.prog 62 1=some (1,9)∧fldOf Tryz.prog 62 2=some (2,9)∧plcOf Tryz.prog 62=some [(0,1),(1,1),(2,1)]∧eqKinds Tryz.prog 62=some [.str,.str,.str]:=by and_intros<;>kernel_rfl
theorem tab75:szOf Tryz.prog 75=some 1∧aggOf Tryz.prog 75=some false∧bytOf Tryz.prog 75=some 8∧zerOf Tryz.prog 75=some [.v (.map none)]∧zvOf Tryz.prog 75=some (.c (.v (.map none)))∧mpOf Tryz.prog 75=some (none,4):=by and_intros<;>kernel_rfl
theorem tab82:szOf Tryz.prog 82=some 1∧aggOf Tryz.prog 82=some false∧bytOf Tryz.prog 82=some 8∧zerOf Tryz.prog 82=some [.v (.pointer none)]∧zvOf Tryz.prog 82=some (.c (.v (.pointer none))):=by and_intros<;>kernel_rfl
theorem tab83:szOf Tryz.prog 83=some 1∧aggOf Tryz.prog 83=some false∧bytOf Tryz.prog 83=some 8∧zerOf Tryz.prog 83=some [.v (.map none)]∧zvOf Tryz.prog 83=some (.c (.v (.map none)))∧mpOf Tryz.prog 83=some (none,9):=by and_intros<;>kernel_rfl
theorem tab85:szOf Tryz.prog 85=some 3∧aggOf Tryz.prog 85=some true∧bytOf Tryz.prog 85=some 40∧zerOf Tryz.prog 85=some [.v (.slice none 0 0),.v (.map none),.v (.map none)]∧zvOf Tryz.prog 85=some (.agg [.v (.slice none 0 0),.v (.map none),.v (.map none)])∧fldOf Tryz.prog 85 0=some (0,28)∧fldOf Tryz.prog 85 1=some (1,83)∧fldOf Tryz.prog 85 2=some (2,75)∧plcOf Tryz.prog 85=some [(0,1),(1,1),(2,1)]:=by and_intros<;>kernel_rfl
theorem tab92:szOf Tryz.prog 92=some 12∧aggOf Tryz.prog 92=some true∧bytOf Tryz.prog 92=some 208∧zerOf Tryz.prog 92=some [.v (.string ⟨#[]⟩),.v (.int .i64 0),.v (.slice none 0 0),.v (.slice none 0 0),.v (.slice none 0 0),.v (.slice none 0 0),.v (.slice none 0 0),.v (.string ⟨#[]⟩),.v (.int .i64 0),.v (.string ⟨#[]⟩),.v (.string ⟨#[]⟩),.v (.int .i64 0)]∧zvOf Tryz.prog 92=some (.agg [.v (.string ⟨#[]⟩),.v (.int .i64 0),.v (.slice none 0 0),.v (.slice none 0 0),.v (.slice none 0 0),.v (.slice none 0 0),.v (.slice none 0 0),.v (.string ⟨#[]⟩),.v (.int .i64 0),.v (.string ⟨#[]⟩),.v (.string ⟨#[]⟩),.v (.int .i64 0)])∧fldOf Tryz.prog 92 0=some (0,9)∧fldOf Tryz.prog 92 1=some (1,3)∧fldOf Tryz.prog 92 2=some (2,28)∧fldOf Tryz.prog 92 3=some (3,34)∧fldOf Tryz.prog 92 4=some (4,34)∧fldOf Tryz.prog 92 5=some (5,34)∧fldOf Tryz.prog 92 6=some (6,34)∧fldOf Tryz.prog 92 7=some (7,9)∧fldOf Tryz.prog 92 8=some (8,3)∧fldOf Tryz.prog 92 9=some (9,9)∧fldOf Tryz.prog 92 10=some (10,9)∧fldOf Tryz.prog 92 11=some (11,3)∧plcOf Tryz.prog 92=some [(0,1),(1,1),(2,1),(3,1),(4,1),(5,1),(6,1),(7,1),(8,1),(9,1),(10,1),(11,1)]:=by and_intros<;>kernel_rfl
theorem tab97:szOf Tryz.prog 97=some 1∧aggOf Tryz.prog 97=some false∧bytOf Tryz.prog 97=some 8∧zerOf Tryz.prog 97=some [.v (.nilFunc)]∧zvOf Tryz.prog 97=some (.c (.v (.nilFunc))):=by and_intros<;>kernel_rfl
theorem tab105:szOf Tryz.prog 105=some 1∧aggOf Tryz.prog 105=some false∧bytOf Tryz.prog 105=some 8∧zerOf Tryz.prog 105=some [.v (.map none)]∧zvOf Tryz.prog 105=some (.c (.v (.map none)))∧mpOf Tryz.prog 105=some ((some .i64),3):=by and_intros<;>kernel_rfl
theorem tab106:szOf Tryz.prog 106=some 1∧aggOf Tryz.prog 106=some false∧bytOf Tryz.prog 106=some 8∧zerOf Tryz.prog 106=some [.v (.map none)]∧zvOf Tryz.prog 106=some (.c (.v (.map none)))∧mpOf Tryz.prog 106=some ((some .i64),9):=by and_intros<;>kernel_rfl
theorem tab108:szOf Tryz.prog 108=some 3∧aggOf Tryz.prog 108=some true∧bytOf Tryz.prog 108=some 40∧zerOf Tryz.prog 108=some [.v (.slice none 0 0),.v (.map none),.v (.map none)]∧zvOf Tryz.prog 108=some (.agg [.v (.slice none 0 0),.v (.map none),.v (.map none)])∧fldOf Tryz.prog 108 0=some (0,45)∧fldOf Tryz.prog 108 1=some (1,105)∧fldOf Tryz.prog 108 2=some (2,106)∧plcOf Tryz.prog 108=some [(0,1),(1,1),(2,1)]:=by and_intros<;>kernel_rfl
theorem tab167:szOf Tryz.prog 167=some 256∧aggOf Tryz.prog 167=some true∧bytOf Tryz.prog 167=some 256∧zerOf Tryz.prog 167=some (List.replicate 256 (.v (.bool false)))∧arrOf Tryz.prog 167=some (256,1)∧plcOf Tryz.prog 167=none:=by and_intros<;>kernel_rfl
attribute [push_cast] tab3 tab4 tab9 tab22 tab25 tab26 tab28 tab33 tab34 tab36 tab45 tab47 tab49 tab52 tab57 tab60 tab62 tab75 tab82 tab83 tab85 tab92 tab97 tab105 tab106 tab108 tab167
end Go.Proofs.YthconflkbeipoaaGreatDoor
namespace Go.Proofs.YthconflkbeipoaaGreatDoor
open Go.RowKit
open IntWalk renaming iteOmega → iO, toNatUp → tN
set_option linter.unusedVariables false
set_option linter.unusedSimpArgs false
theorem oper_wp_to {P:Program} {o:Oper} {a:Act} {w:World} {K K':Act → World → Prop} {Q Q':Exit → Act → World → Prop} (h:∀ a w,K a w → K' a w) (hq:∀ e a w,e≠.normal → ¬ Q e a w)
  (hh:o.wpIn (Fw none) 0 P a w K Q):o.wpIn (Fw none) 0 P a w K' Q':=by
 refine ⟨fun _ _=>trivial,?_⟩
 have hh:=hh.2
 generalize (o.semAt (Fw none).round a.eval).run P w=r at *
 cases r with
 | ok n w' =>
  cases n with
  | value v=>exact h _ _ hh
  | skip=>exact h _ _ hh
  | defer d=>exact h _ _ hh
  | enter f args =>
   simp only [Oper.uponIn] at hh ⊢
   refine ⟨hh.1,CallsIn.mono hh.2 fun e w'' he=>?_⟩
   cases e with
   | returned v=>exact h _ _ he
   | panicked ch=>exact absurd he (hq _ _ _ (by simp))
   | outgrown=>obtain ⟨a',w3,h3⟩:=he;exact absurd h3 (hq _ _ _ (by simp))
  | row r args =>
   simp only [Oper.uponIn] at hh ⊢
   exact ⟨hh.1,RowsIn.mono hh.2 fun _ _ he=>h _ _ he⟩
  | round l f tmps assign body =>
   simp only [Oper.uponIn] at hh ⊢
   refine ⟨hh.1,RoundIn.mono hh.2 fun e w'' he=>?_⟩
   cases e with
   | returned v=>exact h _ _ he
   | panicked ch=>exact absurd he (hq _ _ _ (by simp))
   | outgrown=>obtain ⟨a',w3,h3⟩:=he;exact absurd h3 (hq _ _ _ (by simp))
  | _=>exact hh.elim
 | halt x w' =>
  cases x with
  | panic v=>exact absurd hh (hq _ _ _ (by simp))
  | _=>exact hh.elim
theorem pfree_about {P:Program} {o:Oper} (h:pfree o.op=true) (w:World) (ρ:Operand → Value):o.about P w ρ=none:=by
 unfold Oper.about
 split
 ·rename_i c hc
  rw [hc] at h
  unfold pfree at h
  split at h<;>first|(cases h;done)|skip
  all_goals (rename_i e;first|(cases e;simp [resolve,Target.leads])|(cases e))
 ·rfl
section
variable {P:Program} {N p:Nat} {ops:Array Oper} {s:S} {K:S → Prop} {fuel:Nat} {listed:Array Bool}
def PA (P:Program) (N p:Nat) (ops:Array Oper) (fuel:Nat) (listed:Array Bool) (s:S) (K:S → Prop):Prop :=
 ∀ (Γ:G) (a:Act) (w:World) (Q:Exit → Act → World → Prop),Stands N p Γ s a w → (∀ s' Γ' a' w',K s' → Stands N p Γ' s' a' w' → Grow p Γ w Γ' w' → a'.defers=a.defers → Q .normal a' w') → wpAnyIn (Fw none) 0 P .any ops Q fuel listed a w
theorem pa_done (hr:Region.ready .any ops listed=[]) (h:K s):PA P N p ops fuel listed s K:=fun Γ a w Q hA hK=>by
 have:=hK s Γ a w h hA (Grow.refl _ _ _) rfl
 cases fuel with
 | zero=>exact ⟨hr,this⟩
 | succ f=>exact ⟨fun _=>this,fun i hi=>by rw [hr] at hi;cases hi⟩
def paOne (P:Program) (N p:Nat) (ops:Array Oper) (fuel:Nat) (listed:Array Bool) (s:S) (K:S → Prop) (i:Nat):Option Oper → Prop
 | some o=>pops P N p ops [o] s (fun s'=>PA P N p ops fuel (listed.setIfInBounds i true) s' K)
 | none=>False
def paAll (P:Program) (N p:Nat) (ops:Array Oper) (fuel:Nat) (listed:Array Bool) (s:S) (K:S → Prop):List Nat → Prop
 | []=>True
 | i :: r=>paOne P N p ops fuel listed s K i ops[i]?∧paAll P N p ops fuel listed s K r
theorem paAll_mem:∀ {l:List Nat},paAll P N p ops fuel listed s K l → ∀ i ∈ l,paOne P N p ops fuel listed s K i ops[i]?
 | [],_,i,hi=>by cases hi
 | j :: r,h,i,hi=>by
  rcases List.mem_cons.1 hi with rfl|hi
  ·exact h.1
  ·exact paAll_mem h.2 i hi
theorem pa_step (l:List Nat) (hr:Region.ready .any ops listed=l) (hl:l.isEmpty=false) (h:paAll P N p ops fuel listed s K l):PA P N p ops (fuel+1) listed s K:=fun Γ a w Q hA hK=>by
 refine ⟨fun h0=>?_,fun i hi=>?_⟩
 ·rw [hr] at h0;subst h0;cases hl
 ·rw [hr] at hi
  have h1:=paAll_mem h i hi
  unfold wpOpIn
  cases ho:ops[i]? with
  | none=>rw [ho] at h1;exact h1.elim
  | some o =>
   rw [ho] at h1
   have h2:=pl_of_pops h1 Γ a w (fun e a' w'=>e = .normal∧wpAnyIn (Fw none) 0 P .any ops Q fuel (listed.setIfInBounds i true) a' w') hA (fun s' Γ' a' w' hk hA' hg hd=>⟨rfl,hk Γ' a' w' Q hA' fun s'' Γ'' a'' w'' hk' hA'' hg' hd'=>hK s'' Γ'' a'' w'' hk' hA'' (hg.trans hg') (hd'.trans hd)⟩)
   unfold wpListIn at h2
   simp only []
   split
   ·rename_i hw
    rw [if_pos hw] at h2
    exact oper_wp_to (fun a' w' h=>h.2) (fun e a' w' hne h=>hne h.1) h2
   ·rename_i hw
    rw [if_neg hw] at h2
    exact ⟨h2.1,h2.2.2⟩
def nrm (Q:Exit → Act → World → Prop):Exit → Act → World → Prop:=fun e a w=>e = .normal∧Q .normal a w
theorem wpAny_nrm {Q:Exit → Act → World → Prop}:∀ {fuel:Nat} {listed:Array Bool} {a:Act} {w:World},wpAnyIn (Fw none) 0 P .any ops (nrm Q) fuel listed a w → wpAnyIn (Fw none) 0 P .any ops Q fuel listed a w
 | 0,_,_,_,h=>⟨h.1,h.2.2⟩
 | fuel+1,listed,a,w,h=>⟨fun h0=>(h.1 h0).2,fun i hi=>by
  have h1:=h.2 i hi
  unfold wpOpIn at h1 ⊢
  split
  ·rename_i ho;rw [ho] at h1;exact wpAny_nrm h1
  ·rename_i o ho
   rw [ho] at h1
   simp only at h1
   split
   ·rename_i hw
    rw [if_pos hw] at h1
    exact oper_wp_to (fun _ _ h=>wpAny_nrm h) (fun e a' w' hne h=>hne h.1) h1
   ·rename_i hw
    rw [if_neg hw] at h1
    exact ⟨h1.1,wpAny_nrm h1.2⟩⟩
def freeAt (ops:Array Oper) (i:Nat):Bool:=match ops[i]? with
 | some o=>pfree o.op
 | none=>false
def hoR (P:Program) (N p:Nat) (ops:Array Oper) (fuel:Nat) (listed:Array Bool) (s:S) (K:S → Prop) (i:Nat) (o:Oper):Option Bool → Res → Prop
 | some true,.val q=>dstOk N o.dst∧PA P N p ops fuel (listed.setIfInBounds i true) (s.put o.dst q) K
 | some false,_=>dstOk N o.dst∧PA P N p ops fuel (listed.setIfInBounds i true) (s.put o.dst .undef) K
 | _,_=>False
def hoG (P:Program) (N p:Nat) (ops:Array Oper) (fuel:Nat) (listed:Array Bool) (s:S) (K:S → Prop) (i:Nat):Option Oper → Prop
 | some o=>hoR P N p ops fuel listed s K i o (gd ops s o.guard) (run1 P p s o.op)
 | none=>False
theorem pa_hoist (i:Nat) (hB:(Region.noSelect ops && (Region.ready .any ops listed).contains i && Region.free .any ops listed i && freeAt ops i)=true) (h:hoG P N p ops fuel listed s K i ops[i]?):PA P N p ops (fuel+1) listed s K:=fun Γ a w Q hA hK=>by
 simp only [Bool.and_eq_true,List.contains_iff_mem] at hB
 obtain ⟨⟨⟨b1,b2⟩,b3⟩,b4⟩:=hB
 cases ho:ops[i]? with
 | none=>rw [ho] at h;exact h.elim
 | some o =>
  rw [ho] at h
  have hf:pfree o.op=true:=by unfold freeAt at b4;rw [ho] at b4;exact b4
  change hoR P N p ops fuel listed s K i o (gd ops s o.guard) (run1 P p s o.op) at h
  refine wpAny_nrm ?_
  have hQ:∀ (v:Value) c a' w',nrm Q (.panic c) (a'.put o.dst v) w' → nrm Q (.panic c) a' w':=fun v c a' w' h=>absurd h.1 (by simp)
  unfold hoR at h
  split at h
  ·rename_i q hg hr
   obtain ⟨hd,hn⟩:=h
   obtain ⟨y,h1,h2⟩:=pval_free hf (run1_val hr) hA.inv
   refine wpAnyIn_first rfl ho (Region.noSelect_spec b1) (hQ y) fuel listed a w (Region.free_spec ho b3) b2 ⟨.inl ⟨gd_ok hg hA.inv,h2⟩,fun w=>pfree_about hf w _⟩ ?_
   exact hn Γ _ w _ ⟨hA.inv.put (dst_lt hd) h1,hA.le⟩ fun s' Γ' a' w' hk ha hg' hd'=>⟨rfl,hK s' Γ' a' w' hk ha hg' (hd'.trans (put_defers _ _ _))⟩
  ·rename_i r hg
   obtain ⟨hd,hn⟩:=h
   refine wpAnyIn_first rfl ho (Region.noSelect_spec b1) (hQ Go.undef) fuel listed a w (Region.free_spec ho b3) b2 ⟨.inr ⟨gd_ok hg hA.inv,rfl⟩,fun w=>pfree_about hf w _⟩ ?_
   exact hn Γ _ w _ ⟨hA.inv.put (dst_lt hd) rfl,hA.le⟩ fun s' Γ' a' w' hk ha hg' hd'=>⟨rfl,hK s' Γ' a' w' hk ha hg' (hd'.trans (put_defers _ _ _))⟩
  ·exact h.elim
theorem pa_weak {s':S} (hw:Weak N p s s') (h:PA P N p ops fuel listed s' K):PA P N p ops fuel listed s K:=fun Γ a w Q hA hK=>by
 obtain ⟨Γ1,h1,g1⟩:=hw Γ a w hA
 exact h Γ1 a w Q h1 fun s2 Γ2 a2 w2 hk hA2 hg hd=>hK s2 Γ2 a2 w2 hk hA2 (g1.trans hg) hd
theorem pa_have {f0:Nat} {l0:Array Bool} {s0:S} (fuel:Nat) (listed:Array Bool) (s:S) (h:PA P N p ops fuel listed s K → PA P N p ops f0 l0 s0 K) (h2:PA P N p ops fuel listed s K):PA P N p ops f0 l0 s0 K:=h h2
theorem pa_hav {f0 fuel:Nat} {l0 listed:Array Bool} {s0 s:S} (h:PA P N p ops fuel listed s K → PA P N p ops f0 l0 s0 K) (h2:PA P N p ops fuel listed s K):PA P N p ops f0 l0 s0 K:=h h2
theorem pwp_drawn {rd:Option Nat} {Q:Exit → S → Prop} {id:Nat} {l:List Oper} (hmp:(P.follows .mixedOrders && plains l)=true) (h:PA P N p l.toArray l.length (Array.replicate l.length false) s (fun s'=>Q .normal s')):PWPr rd P N p (.region id l.toArray true) Q s:=fun z Γ a w hA hD=>by
 simp only [Bool.and_eq_true] at hmp
 refine wpIn_region_any hmp.1 (any_rd (by simpa using hmp.2) ?_)
 have hX:Ext No w { w with drawn:=w.drawn+1 }:=(Ext.refl No w).drew
 exact h Γ a _ _ ⟨hA.inv.same (Same.of_ext hX),hA.le⟩ fun s' Γ' a' w' hk hA' hg hd=>⟨s',Γ',hk,hA',(ext_grow hX).trans hg,hD.grow ((ext_grow (p:=p) hX).trans hg) hd⟩
theorem pwp_drawn_to {rd:Option Nat} {Q:Exit → S → Prop} {id:Nat} {l:List Oper} (s1:S) (hmp:(P.follows .mixedOrders && plains l)=true) (h:PA P N p l.toArray l.length (Array.replicate l.length false) s (fun s'=>Weak N p s' s1)) (hq:Q .normal s1):PWPr rd P N p (.region id l.toArray true) Q s:=fun z Γ a w hA hD=>by
 simp only [Bool.and_eq_true] at hmp
 refine wpIn_region_any hmp.1 (any_rd (by simpa using hmp.2) ?_)
 have hX:Ext No w { w with drawn:=w.drawn+1 }:=(Ext.refl No w).drew
 refine h Γ a _ _ ⟨hA.inv.same (Same.of_ext hX),hA.le⟩ fun s' Γ' a' w' hk hA' hg hd=>?_
 obtain ⟨Γ2,hA2,hg2⟩:=hk Γ' a' w' hA'
 exact ⟨s1,Γ2,hq,hA2,(ext_grow hX).trans (hg.trans hg2),hD.grow ((ext_grow (p:=p) hX).trans (hg.trans hg2)) hd⟩
end
attribute [push_cast] paOne paAll hoG hoR
attribute [local irreducible] PA
end Go.Proofs.YthconflkbeipoaaGreatDoor
