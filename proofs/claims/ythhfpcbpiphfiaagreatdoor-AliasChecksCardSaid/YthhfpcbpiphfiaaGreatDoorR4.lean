/- What the program computes, and the plain laws of it, part 4. -/
import Derived.Laws.Tables
import Derived.Laws.BytesArg
import Derived.MapKept
import Derived.Test.YthhfpcbpiphfiaaGreatDoorR3
namespace Go.Proofs.YthhfpcbpiphfiaaGreatDoor
open Go.RowKit
open IntWalk renaming iteOmega → iO, toNatUp → tN
set_option linter.unusedVariables false
set_option linter.unusedSimpArgs false
def plcOf (P:Program) (t:TypeId):Option (List (Nat × Nat)):=match P.underlying t with
 | some (.struct fs)=>fs.toList.mapM fun f=>(P.info? f.type).map fun i=>(f.offset,i.size)
 | _=>none
def zerOf (P:Program) (t:TypeId):Option (List E):=match P.info? t with
 | some i=>match i.zero with
  | some z=>if z.cells.toList.all Value.oneCell' then some (z.cells.toList.map E.v) else none
  | none=>none
 | none=>none
def fillE (pl:List (Nat × Nat)) (cs:List E):List (Nat × Option PV) → Option (List E)
 | []=>some cs
 | (i,some (.c e)) :: rest=>match pl[i]? with
  | some (off,1)=>if off < cs.length then fillE pl (cs.set off e) rest else none
  | _=>none
 | (i,some (.agg ds)) :: rest=>match pl[i]? with
  | some (off,n)=>if ds.length=n∧off+n≤cs.length then fillE pl (cs.take off++ds++cs.drop (off+n)) rest else none
  | _=>none
 | _=>none
def fillA (sz:Nat) (cs:List E):List (Nat × Option PV) → Option (List E)
 | []=>some cs
 | (i,some (.c e)) :: rest=>if sz=1∧i < cs.length then fillA sz (cs.set i e) rest else none
 | _=>none
def buildP (P:Program) (t:TypeId) (parts:List (Nat × Option PV)):Option PV:=match zerOf P t with
 | some z=>match plcOf P t with
  | some pl=>(fillE pl z parts).map PV.agg
  | none=>match arrOf P t with
   | some (_,sz)=>(fillA sz z parts).map PV.agg
   | none=>none
 | none=>none
theorem one_cells {v:Value} (h:v.oneCell'=true):v.cells = #[v]:=by
 cases v<;>first|rfl|(simp [Value.oneCell'] at h)
theorem splice:∀ (ys:List Value) (k off:Nat) (arr:Array Value),off+k+ys.length≤arr.size →
  ((ys.zipIdx k).foldl (fun (cs:Array Value) (x:Value × Nat)=>cs.setIfInBounds (off+x.2) x.1) arr).toList=arr.toList.take (off+k)++ys++arr.toList.drop (off+k+ys.length)
 | [],k,off,arr,_=>by simp
 | y :: ys,k,off,arr,h=>by
  simp only [List.length_cons] at h
  simp only [List.zipIdx_cons,List.foldl_cons]
  rw [splice ys (k+1) off _ (by rw [Array.size_setIfInBounds];omega)]
  have hlt:off+k < arr.toList.length:=by rw [Array.length_toList];omega
  rw [Array.toList_setIfInBounds]
  have e1:(arr.toList.set (off+k) y).take (off+(k+1))=arr.toList.take (off+k)++[y]:=by
   rw [show off+(k+1)=off+k+1 by omega,List.take_succ_eq_append_getElem (by rw [List.length_set];exact hlt),List.take_set_of_le (Nat.le_refl _)]
   simp
  rw [e1]
  rw [List.drop_set_of_lt (by omega)]
  simp only [List.length_cons,List.append_assoc,List.singleton_append,List.cons_append,List.nil_append]
  rw [show off+(k+1)+ys.length=off+k+(ys.length+1) by omega]
theorem fill_ok {w:World} {Γ:G} {pl:List (Nat × Nat)}:∀ (parts:List (Nat × Option PV)) (vs:List (Nat × Value)) (cs cs':List E) (xs:Array Value),
  All2 (fun p v=>p.1=v.1∧∀ q,p.2=some q → RP w Γ q v.2) parts vs → All2 (RE w Γ) cs xs.toList → fillE pl cs parts=some cs' → ∃ ys,Instr.fill (pl[·]?) xs vs=some ys∧All2 (RE w Γ) cs' ys.toList
 | [],vs,cs,cs',xs,hp,hx,h=>by
  rw [All2.nil_l] at hp
  subst hp
  simp only [fillE,Option.some.injEq] at h
  subst h
  exact ⟨xs,rfl,hx⟩
 | (i,o) :: rest,vs,cs,cs',xs,hp,hx,h=>by
  obtain ⟨⟨j,v⟩,vs',rfl,⟨h1,h2⟩,h3⟩:=All2.cons_l.1 hp
  simp only at h1 h2
  subst h1
  have hl:cs.length=xs.size:=by rw [hx.length,Array.length_toList]
  cases o with
  | none=>simp [fillE] at h
  | some q =>
   have hq:=h2 q rfl
   cases q with
   | c e =>
    simp only [fillE] at h
    split at h
    ·rename_i off hpl
     split at h
     ·rename_i hlt
      have hv:v.cells = #[v]:=one_cells (RE.one hq)
      have hxs:All2 (RE w Γ) (cs.set off e) (xs.setIfInBounds off v).toList:=by rw [Array.toList_setIfInBounds];exact hx.set_ off hq
      obtain ⟨ys,g1,g2⟩:=fill_ok rest vs' _ cs' (xs.setIfInBounds off v) h3 hxs h
      refine ⟨ys,?_,g2⟩
      simp only [Instr.fill,hpl]
      rw [if_neg (by simp [hv];omega)]
      simpa [hv] using g1
     ·cases h
    ·cases h
   | agg ds =>
    simp only [fillE] at h
    split at h
    ·rename_i off n hpl
     split at h
     ·rename_i hc
      obtain ⟨hc1,hc2⟩:=hc
      obtain ⟨zs,rfl,hz⟩:=hq
      have hzl:zs.length=n:=by rw [← hz.length];exact hc1
      have hsp:=splice zs 0 off xs (by omega)
      simp only [Nat.add_zero] at hsp
      have hxs:All2 (RE w Γ) (cs.take off++ds++cs.drop (off+n)) ((zs.zipIdx 0).foldl (fun (cs:Array Value) (x:Value × Nat)=>cs.setIfInBounds (off+x.2) x.1) xs).toList:=by
       rw [hsp,hzl]
       exact ((hx.take off).append hz).append (hx.drop _)
      obtain ⟨ys,g1,g2⟩:=fill_ok rest vs' _ cs' _ h3 hxs h
      refine ⟨ys,?_,g2⟩
      simp only [Instr.fill,hpl]
      rw [if_neg (by simp [Value.cells];omega)]
      rw [← g1]
      congr 1
      simp only [Value.cells]
      rw [← Array.foldl_toList,Array.toList_zipIdx]
     ·cases h
    ·cases h
   | undef=>simp [fillE] at h
   | two a b=>simp [fillE] at h
   | three a b c=>simp [fillE] at h
theorem fillA_ok {w:World} {Γ:G} {sz:Nat}:∀ (parts:List (Nat × Option PV)) (vs:List (Nat × Value)) (cs cs':List E) (xs:Array Value),
  All2 (fun p v=>p.1=v.1∧∀ q,p.2=some q → RP w Γ q v.2) parts vs → All2 (RE w Γ) cs xs.toList → fillA sz cs parts=some cs' → ∃ ys,Instr.fill (fun i=>some (i * sz,sz)) xs vs=some ys∧All2 (RE w Γ) cs' ys.toList
 | [],vs,cs,cs',xs,hp,hx,h=>by
  rw [All2.nil_l] at hp
  subst hp
  simp only [fillA,Option.some.injEq] at h
  subst h
  exact ⟨xs,rfl,hx⟩
 | (i,o) :: rest,vs,cs,cs',xs,hp,hx,h=>by
  obtain ⟨⟨j,v⟩,vs',rfl,⟨h1,h2⟩,h3⟩:=All2.cons_l.1 hp
  simp only at h1 h2
  subst h1
  have hl:cs.length=xs.size:=by rw [hx.length,Array.length_toList]
  unfold fillA at h
  split at h
  ·rename_i e0;cases e0
  ·rename_i i' e rest' e0
   simp only [List.cons.injEq,Prod.mk.injEq] at e0
   obtain ⟨⟨rfl,rfl⟩,rfl⟩:=e0
   have hq:=h2 _ rfl
   split at h
   ·rename_i hc
    obtain ⟨rfl,hlt⟩:=hc
    have hv:v.cells = #[v]:=one_cells (RE.one hq)
    have hxs:All2 (RE w Γ) (cs.set i e) (xs.setIfInBounds i v).toList:=by rw [Array.toList_setIfInBounds];exact hx.set_ i hq
    obtain ⟨ys,g1,g2⟩:=fillA_ok rest vs' _ cs' (xs.setIfInBounds i v) h3 hxs h
    refine ⟨ys,?_,g2⟩
    simp only [Instr.fill]
    rw [if_neg (by simp [hv];omega)]
    simpa [hv] using g1
   ·cases h
  ·cases h
theorem parts_ok {N:Nat} {Γ:G} {s:S} {a:Act} {w:World} (hI:Inv N Γ s a w):∀ ps:List (Nat × Operand),All2 (fun p v=>p.1=v.1∧∀ q,p.2=some q → RP w Γ q v.2) (ps.map fun x=>(x.1,s.ev x.2)) (ps.map fun x=>(x.1,a.eval x.2))
 | []=>trivial
 | p :: ps=>⟨⟨rfl,fun q hq=>S.ev_ok hq hI⟩,parts_ok hI ps⟩
theorem zer_ok {P:Program} {t:TypeId} {z:List E} (h:zerOf P t=some z):∃ i v,P.info? t=some i∧i.zero=some v∧∀ w Γ,All2 (RE w Γ) z v.cells.toList:=by
 unfold zerOf at h
 split at h
 ·rename_i i hi
  split at h
  ·rename_i v hv
   split at h
   ·rename_i hc
    cases h
    refine ⟨i,v,hi,hv,fun w Γ=>All2.map_l.2 ?_⟩
    have:∀ l:List Value,l.all Value.oneCell'=true → All2 (fun a b=>RE w Γ (E.v a) b) l l:=by
     intro l
     induction l with
     | nil=>intro _;trivial
     | cons a l ih=>intro hl;simp at hl;exact ⟨⟨rfl,hl.1⟩,ih (by simpa using hl.2)⟩
    exact this _ hc
   ·cases h
  ·cases h
 ·cases h
theorem buildP_ok {P:Program} {N:Nat} {Γ:G} {s:S} {a:Act} {w:World} {t:TypeId} {parts:Array (Nat × Operand)} {q:PV} {o:Oper} (ho:o.op = .build t parts) (h:buildP P t (parts.toList.map fun x=>(x.1,s.ev x.2))=some q) (hI:Inv N Γ s a w) :
  ∃ y,RP w Γ q y∧∀ w',Any w w' → (execOp a.eval o).run P w' = .ok (.value y) w':=by
 unfold buildP at h
 split at h
 ·rename_i z hz
  obtain ⟨i,v,hi,hv,hzr⟩:=zer_ok hz
  have fin:∀ ys:Array Value,P.built t (parts.map fun (i,x)=>(i,a.eval x)).toList=some ys → ∀ w':World,(execOp a.eval o).run P w' = .ok (.value (.agg ys)) w':=fun ys hb w'=>by
   simp only [execOp,ho,Sem.run_bind,run_build w' t _ ys hb,Result.andThen_ok,Sem.run_pure]
  split at h
  ·rename_i pl hpl
   obtain ⟨cs,hcs,rfl⟩:=Option.map_eq_some_iff.1 h
   obtain ⟨ys,h1,h2⟩:=fill_ok _ _ z cs v.cells (parts_ok hI parts.toList) (hzr w Γ) hcs
   refine ⟨.agg ys,⟨ys.toList,by simp,h2⟩,fun w' _=>fin ys ?_ w'⟩
   unfold plcOf at hpl
   split at hpl
   ·rename_i fs hu
    unfold Program.built
    simp only [hi,hu,hv,hpl]
    rw [Array.toList_map]
    simpa using h1
   ·cases hpl
  ·split at h
   ·rename_i n sz har
    obtain ⟨cs,hcs,rfl⟩:=Option.map_eq_some_iff.1 h
    obtain ⟨ys,h1,h2⟩:=fillA_ok _ _ z cs v.cells (parts_ok hI parts.toList) (hzr w Γ) hcs
    refine ⟨.agg ys,⟨ys.toList,by simp,h2⟩,fun w' _=>fin ys ?_ w'⟩
    unfold arrOf at har
    split at har
    ·rename_i n' e hu
     obtain ⟨sz',hsz,he⟩:=Option.map_eq_some_iff.1 har
     cases he
     obtain ⟨ie,hie,rfl⟩:=Option.map_eq_some_iff.1 hsz
     unfold Program.built
     simp only [hi,hu,hv,hie]
     rw [Array.toList_map]
     exact h1
    ·cases har
   ·cases h
 ·cases h
def fnKeys:List (Option PV) → Option (List Nat)
 | []=>some []
 | some (.c (.ptr k 0)) :: r=>(fnKeys r).map (k :: ·)
 | _=>none
def fnD:List (Option PV) → Option (List D)
 | []=>some []
 | some (.c (.v x)) :: r=>(fnD r).map (.v x :: ·)
 | some (.c (.sl sz l)) :: r=>(fnD r).map (.sl sz l :: ·)
 | _=>none
def funQ (f:Fn) (ds:List D) (ks:List Nat):Bool → Option PV
 | true=>none
 | false=>some (.c (.fn f ds ks))
def funP (f:Fn) (first cap:List (Option PV)):Option PV:=match fnD first,fnKeys cap with
 | some ds,some ks=>funQ f ds ks (isBnd ds)
 | none,some []=>(fnKeys first).map fun ks=>.c (.fn f [.v .nilFunc] ks)
 | _,_=>none
theorem fnKeys_ok {N:Nat} {Γ:G} {s:S} {a:Act} {w:World} (hI:Inv N Γ s a w):∀ (l:List Operand) (ks:List Nat),fnKeys (l.map s.ev)=some ks → l.map a.eval=ks.map (keyVal Γ)∧∀ k ∈ ks,k < Γ.n
 | [],ks,h=>by simp [fnKeys] at h;subst h;simp
 | x :: l,ks,h=>by
  simp only [List.map_cons] at h
  unfold fnKeys at h
  split at h
  ·rename_i e;simp at e
  ·rename_i k r e
   injection e with e1 e2
   subst e2
   obtain ⟨ks',h1,rfl⟩:=Option.map_eq_some_iff.1 h
   obtain ⟨i1,i2⟩:=fnKeys_ok hI l ks' h1
   obtain ⟨j1,j2⟩:=S.ev_ok e1 hI
   exact ⟨by simp [i1,j2,keyVal],by simpa [j1] using i2⟩
  ·cases h
theorem fnD_ok {N:Nat} {Γ:G} {s:S} {a:Act} {w:World} (hI:Inv N Γ s a w):∀ (l:List Operand) (ds:List D),fnD (l.map s.ev)=some ds → All2 (RD w Γ.I) ds (l.map a.eval)
 | [],ds,h=>by simp [fnD] at h;subst h;trivial
 | x :: l,ds,h=>by
  simp only [List.map_cons] at h
  unfold fnD at h
  split at h
  ·rename_i e;simp at e
  ·rename_i u r e
   injection e with e1 e2
   subst e2
   obtain ⟨ds',h1,rfl⟩:=Option.map_eq_some_iff.1 h
   exact ⟨by rw [RD];exact S.ev_ok e1 hI,fnD_ok hI l ds' h1⟩
  ·rename_i sz u r e
   injection e with e1 e2
   subst e2
   obtain ⟨ds',h1,rfl⟩:=Option.map_eq_some_iff.1 h
   exact ⟨S.ev_ok e1 hI,fnD_ok hI l ds' h1⟩
  ·cases h
theorem funP_ok {P:Program} {N:Nat} {Γ:G} {s:S} {a:Act} {w:World} {f:Fn} {first cap:Array Operand} {q:PV} {o:Oper} (ho:o.op = .makeFunc f first cap) (h:funP f (first.toList.map s.ev) (cap.toList.map s.ev)=some q) (hI:Inv N Γ s a w) :
  ∃ y,RP w Γ q y∧∀ w',Any w w' → (execOp a.eval o).run P w' = .ok (.value y) w':=by
 have e1:(first.toList.map a.eval).toArray=first.map a.eval:=by rw [← Array.toList_map,Array.toArray_toList]
 have e2:(cap.toList.map a.eval).toArray=cap.map a.eval:=by rw [← Array.toList_map,Array.toArray_toList]
 unfold funP at h
 split at h
 ·rename_i ds ks h1 h2
  cases hb:isBnd ds with
  | true=>rw [hb] at h;cases h
  | false =>
   rw [hb] at h
   cases h
   obtain ⟨k1,k2⟩:=fnKeys_ok hI _ _ h2
   refine ⟨_,⟨_,rfl,fun _=>fnD_ok hI _ _ h1,k2⟩,fun w' _=>?_⟩
   simp only [execOp,ho,Instr.makeFunc,Sem.run_bind,Sem.run_pure,Result.andThen_ok,← k1,hb,fnV]
   rw [e1,e2]
 ·rename_i h1 h2
  obtain ⟨ks,h3,rfl⟩:=Option.map_eq_some_iff.1 h
  obtain ⟨k1,k2⟩:=fnKeys_ok hI _ _ h3
  have hc:cap.toList.map s.ev=[]:=by
   cases hl:cap.toList with
   | nil=>rfl
   | cons x l =>
    rw [hl] at h2
    simp only [List.map_cons] at h2
    unfold fnKeys at h2
    split at h2
    ·rename_i e;simp at e
    ·obtain ⟨_,_,h4⟩:=Option.map_eq_some_iff.1 h2
     cases h4
    ·cases h2
  have hc2:cap.map a.eval = #[]:=by
   rw [← e2,List.map_eq_nil_iff.1 hc]
   rfl
  refine ⟨_,⟨[],rfl,(fun h=>by cases h),k2⟩,fun w' _=>?_⟩
  simp only [execOp,ho,Instr.makeFunc,Sem.run_bind,Sem.run_pure,Result.andThen_ok,← k1,isBnd,fnV]
  rw [e1,hc2]
 ·cases h
def intOf? (P:Program) (t:TypeId):Option IntKind:=match P.underlying t with
 | some (.int k)=>some k
 | _=>none
def isBytes (P:Program) (t:TypeId):Bool:=match P.underlying t with
 | some (.slice e)=>match P.underlying e with
  | some (.int .u8)=>true
  | _=>false
 | _=>false
theorem isBytes_ok {P:Program} {t:TypeId} (h:isBytes P t=true):∃ e,P.underlying t=some (.slice e)∧P.underlying e=some (.int .u8):=by
 unfold isBytes at h
 split at h
 ·split at h
  ·exact ⟨_,by assumption,by assumption⟩
  ·cases h
 ·cases h
def byteNum:List D → Option Int
 | [.v (.int .u8 n)]=>some n
 | _=>none
def nums:List (List D) → Option (List Int)
 | []=>some []
 | r :: l=>match byteNum r,nums l with
  | some n,some ns=>some (n :: ns)
  | _,_=>none
theorem nums_map:∀ ns:List Int,nums (ns.map fun n=>[D.v (.int .u8 n)])=some ns
 | []=>rfl
 | n :: ns=>by simp only [List.map_cons,nums,byteNum,nums_map ns]
theorem nums_ok {w:World} {I:Nat → Prop}:∀ {l:List (List D)} {ns:List Int} {xs:List Value},nums l=some ns → RRows w I 1 l xs → xs=ns.map (Value.int .u8)∧ns.length=l.length
 | [],ns,xs,h,hr=>by
  simp only [nums,Option.some.injEq] at h
  subst h
  rw [RRows] at hr
  exact ⟨hr,rfl⟩
 | r :: l,ns,xs,h,hr=>by
  simp only [nums] at h
  split at h
  ·rename_i n ns' h1 h2
   cases h
   rw [RRows] at hr
   obtain ⟨a,b,rfl,h3,h4,h5⟩:=hr
   obtain ⟨h6,h7⟩:=nums_ok h2 h5
   unfold byteNum at h1
   split at h1
   ·cases h1
    rw [rrow_iff] at h4
    obtain ⟨y,m,rfl,h8,h9⟩:=All2.cons_l.1 h4
    rw [All2.nil_l] at h9
    subst h9
    rw [RD] at h8
    rw [h8.1,h6]
    exact ⟨rfl,by simp [h7]⟩
   ·cases h1
  ·cases h
theorem bytes_ok {P:Program} {w w':World} {I:Nat → Prop} {l:List (List D)} {ns:List Int} {y:Value} {src dst:TypeId} (h:RD w I (.sl 1 l) y) (hn:nums l=some ns) (hs:isBytes P src=true) (hd:isStr P dst=true) (hw:Same w w') :
  (convert src dst y).run P w' = .ok (.string (strOfNums ns)) w':=by
 rw [RD] at h
 obtain ⟨A,c,xs,rfl,hc,hr,hrr⟩:=h
 obtain ⟨rfl,hlen⟩:=nums_ok hn hrr
 obtain ⟨e,h1,h2⟩:=isBytes_ok hs
 have h3:=isStr_ok hd
 by_cases h0:0 < l.length
 ·obtain ⟨b,o,rfl,hb,hlt,hcell⟩:=hr.get h0
  exact run_convert_bytes_arg w' src e h1 h2 b o l.length c ns hlen (fun i hi=>hw.cell (hcell i _ (by rw [List.getElem?_map,List.getElem?_eq_getElem (by omega)];simp [List.getD,hlen,hi]))) dst h3
 ·have:ns=[]:=List.length_eq_zero_iff.1 (by omega)
  subst this
  cases A with
  | none=>exact run_convert_bytes_nil w' src e h1 h2 _ _ dst h3
  | some a =>
   have hl:l.length=0:=by omega
   rw [hl,run_convert_bytes_string w' src dst e _ 0 c h1 h2 h3,run_bytesToString w' _ 0 c [] (by simpa using run_loadCells_list (P:=P) w' a [] (fun j v h=>by simp at h))]
   rfl
def convP (P:Program) (src dst:TypeId):Option PV → Option PV
 | some (.c (.v (.string b)))=>if isStr P src=true∧isStr P dst=true then some (.c (.v (.string b))) else none
 | some (.c (.v (.int k n)))=>match intOf? P src,intOf? P dst with
  | some _,some k'=>some (.c (.v (.int k' (wr k' n))))
  | _,_=>none
 | some (.c (.sl 1 l))=>if isBytes P src=true∧isStr P dst=true then (nums l).map fun ns=>.c (.v (.string (strOfNums ns))) else none
 | some (.c (.full 1 l))=>if isBytes P src=true∧isStr P dst=true then (nums l).map fun ns=>.c (.v (.string (strOfNums ns))) else none
 | _=>none
theorem convP_ok {P:Program} {N:Nat} {Γ:G} {s:S} {a:Act} {w:World} {src dst:TypeId} {x:Operand} {q:PV} {o:Oper} (ho:o.op = .convert src dst x) (h:convP P src dst (s.ev x)=some q) (hI:Inv N Γ s a w) :
  ∃ y,RP w Γ q y∧∀ w',Same w w' → (execOp a.eval o).run P w' = .ok (.value y) w':=by
 unfold convP at h
 split at h
 ·rename_i b e
  have hx:=S.ev_ok e hI
  split at h
  ·rename_i hc
   cases h
   exact ⟨_,⟨rfl,rfl⟩,fun w' _=>by simp [execOp,ho,hx.1,convert,run_underlying (isStr_ok hc.1),run_underlying (isStr_ok hc.2)]⟩
  ·cases h
 ·rename_i k n e
  have hx:=S.ev_ok e hI
  split at h
  ·rename_i k1 k2 h1 h2
   cases h
   have u1:P.underlying src=some (.int k1):=by unfold intOf? at h1;split at h1<;>cases h1;assumption
   have u2:P.underlying dst=some (.int k2):=by unfold intOf? at h2;split at h2<;>cases h2;assumption
   exact ⟨_,⟨rfl,rfl⟩,fun w' _=>by simp [execOp,ho,hx.1,convert,run_underlying u1,run_underlying u2,Conv.intToInt,wr_eq]⟩
  ·cases h
 ·rename_i l e
  have hx:=S.ev_ok e hI
  split at h
  ·rename_i hc
   obtain ⟨ns,h1,rfl⟩:=Option.map_eq_some_iff.1 h
   exact ⟨_,⟨rfl,rfl⟩,fun w' hw=>by simp only [execOp,ho];rw [Sem.run_bind,bytes_ok hx h1 hc.1 hc.2 hw];rfl⟩
  ·cases h
 ·rename_i l e
  have hx:=S.ev_ok e hI
  split at h
  ·rename_i hc
   obtain ⟨ns,h1,rfl⟩:=Option.map_eq_some_iff.1 h
   exact ⟨_,⟨rfl,rfl⟩,fun w' hw=>by simp only [execOp,ho];rw [Sem.run_bind,bytes_ok hx.1 h1 hc.1 hc.2 hw];rfl⟩
  ·cases h
 ·cases h
def keyP:Option PV → Option MK
 | some (.c (.v (.string b)))=>some (.s b)
 | some (.c (.v (.int k n)))=>some (.i k n)
 | _=>none
def mpOf (P:Program) (t:TypeId):Option (Option KI × TypeId):=match P.underlying t with
 | some (.map k e)=>match P.underlying k with
  | some .string=>some (none,e)
  | some (.int k)=>some (some (.int k),e)
  | _=>none
 | _=>none
def zvOf (P:Program) (t:TypeId):Option PV:=match P.info? t with
 | some i=>match i.zero with
  | some z=>ofVal z
  | none=>none
 | none=>none
def mget:List (MK × List D) → MK → Option (List D)
 | [],_=>none
 | (a,r) :: l,k=>if a=k then some r else mget l k
def mput:List (MK × List D) → MK → List D → List (MK × List D)
 | [],k,r=>[(k,r)]
 | (a,x) :: l,k,r=>if a=k then (a,r) :: l else (a,x) :: mput l k r
def rowP:Bool → List D → Option PV
 | true,row=>some (.agg (row.map D.e))
 | false,[d]=>some (.c d.e)
 | false,_=>none
def okP:Bool → Bool → PV → PV
 | true,b,v=>.two v (.c (.v (.bool b)))
 | false,_,v=>v
def lkP (ag:Bool) (z:PV) (ok:Bool):Option (List D) → Option PV
 | some row=>(rowP ag row).map (okP ok true)
 | none=>some (okP ok false z)
def lookupP (P:Program) (os:List Ob) (t:TypeId) (ok:Bool):Option PV → Option PV → Option PV
 | some (.c (.mp k)),ix=>match keyP ix,mpOf P t,os[k]? with
  | some key,some (kk,e),some (.map kk' ag es)=>match zvOf P e with
   | some z=>if key.kind=kk∧kk'=kk then lkP ag z ok (mget es key) else none
   | none=>none
  | _,_,_=>none
 | some (.c (.v (.map none))),ix=>match keyP ix,mpOf P t with
  | some key,some (kk,e)=>match zvOf P e with
   | some z=>if key.kind=kk then some (okP ok false z) else none
   | none=>none
  | _,_=>none
 | _,_=>none
def descOf:Option KI → TypeDesc
 | some (.int k)=>.int k
 | _=>.string
def notW:Option KI → Bool
 | some (.wide _)=>false
 | _=>true
theorem mp_run {P:Program} {t:TypeId} {kk:Option KI} {e:TypeId} (h:mpOf P t=some (kk,e)):∃ k,P.underlying t=some (.map k e)∧P.underlying k=some (descOf kk)∧notW kk=true:=by
 unfold mpOf at h
 split at h
 ·split at h<;>cases h
  ·exact ⟨_,by assumption,by assumption,rfl⟩
  ·exact ⟨_,by assumption,by assumption,rfl⟩
 ·cases h
theorem zv_ok {P:Program} {t:TypeId} {q:PV} (h:zvOf P t=some q):∃ z,(∀ w Γ,RP w Γ q z)∧∀ w:World,(zeroValue t).run P w = .ok z w:=by
 unfold zvOf at h
 split at h
 ·rename_i i hi
  split at h
  ·rename_i z hz
   exact ⟨z,fun w Γ=>ofVal_ok h,fun w=>by simp [zeroValue,typeInfo,hi,hz]⟩
  ·cases h
 ·cases h
theorem mk_isKey {k:MK} {kk:Option KI} (hw:notW kk=true) (h:k.kind=kk):MapKept.IsKey (descOf kk) k.v:=by
 subst h
 cases k<;>simp [descOf,MK.kind,MK.v,MapKept.IsKey,notW] at hw ⊢
theorem mk_same {a b:MK} {kk:Option KI} (hw:notW kk=true) (ha:a.kind=kk) (hb:b.kind=kk):Instr.sameNow (descOf kk) a.v b.v=some (decide (a=b)):=by
 subst ha
 cases a<;>cases b<;>simp [descOf,MK.kind,MK.v,Instr.sameNow,notW] at hb hw ⊢
 ·rename_i x y
  rw [Bool.eq_iff_iff,MapKept.bytes_beq,decide_eq_true_eq]
 ·rename_i k n k' n'
  subst hb
  simp
  rw [Bool.eq_iff_iff]
  simp
theorem keyP_ok {N:Nat} {Γ:G} {s:S} {a:Act} {w:World} {x:Operand} {k:MK} (h:keyP (s.ev x)=some k) (hI:Inv N Γ s a w):a.eval x=k.v:=by
 unfold keyP at h
 split at h
 ·rename_i b e
  cases h
  exact (S.ev_ok e hI).1
 ·rename_i k n e
  cases h
  exact (S.ev_ok e hI).1
 ·cases h
theorem find_ok {w:World} {I:Nat → Prop} {kk:Option KI} {ag:Bool} {key:MK} (hw:notW kk=true) (hk:key.kind=kk):∀ (es:List (MK × List D)) (ms:List MapEntry) (i:Nat),
  All2 (fun e m=>m.key=e.1.v∧RV w I ag e.2 m.val) es ms → (∀ e ∈ es,e.1.kind=kk) →
  (mget es key=none∧(∀ r,mput es key r=es++[(key,r)])∧key ∉ es.map (·.1)∧Instr.findNow (descOf kk) key.v ms i=some none) ∨
  ∃ j e m,es[j]? = some e∧ms[j]? = some m∧e.1=key∧m.key=key.v∧mget es key=some e.2∧(∀ r,mput es key r=es.set j (key,r))∧RV w I ag e.2 m.val∧Instr.findNow (descOf kk) key.v ms i=some (some (i+j,m.val))
 | [],ms,i,h,_=>by
  rw [All2.nil_l] at h
  subst h
  exact .inl ⟨rfl,fun _=>rfl,by simp,rfl⟩
 | (x,r) :: es,ms,i,h,hkk=>by
  obtain ⟨m,ms',rfl,⟨h1,h2⟩,h3⟩:=All2.cons_l.1 h
  have hs:=mk_same hw hk (hkk (x,r) (by simp))
  rw [← h1] at hs
  by_cases e:key=x
  ·subst e
   refine .inr ⟨0,(key,r),m,rfl,rfl,rfl,h1,by simp [mget],fun r'=>by simp [mput],h2,?_⟩
   simp [Instr.findNow,hs]
  ·have e':¬ x=key:=fun h=>e h.symm
   have hs':Instr.sameNow (descOf kk) key.v m.key=some false:=by rw [hs];simp [e]
   rcases find_ok hw hk es ms' (i+1) h3 (fun e he=>hkk e (by simp [he])) with ⟨g1,g2,g3,g4⟩|⟨j,e0,m0,g1,g2,g3,g4,g5,g6,g7,g8⟩
   ·refine .inl ⟨by simp [mget,e',g1],fun r'=>by simp [mput,e',g2],by simpa [e] using g3,?_⟩
    simp [Instr.findNow,hs',g4]
   ·refine .inr ⟨j+1,e0,m0,by simpa using g1,by simpa using g2,g3,g4,by simp [mget,e',g5],fun r'=>by simp [mput,e',g6],g7,?_⟩
    simp [Instr.findNow,hs',g8]
    omega
theorem rowP_ok {w:World} {Γ:G} {ag:Bool} {row:List D} {v:Value} {q:PV} (h:rowP ag row=some q) (hv:RV w Γ.I ag row v):RP w Γ q v:=by
 obtain ⟨xs,h1,h2⟩:=hv
 unfold rowP at h
 split at h
 ·cases h;exact ⟨xs,h2,re_of_d h1⟩
 ·cases h
  simp only at h2
  subst h2
  exact RE.of_d h1.1
 ·cases h
theorem okP_ok {w:World} {Γ:G} {ok b:Bool} {q:PV} {v:Value} (h:RP w Γ q v):RP w Γ (okP ok b q) (if ok then .tuple #[v,.bool b] else v):=by
 cases ok
 ·exact h
 ·exact ⟨v,.bool b,rfl,h,rfl,rfl⟩
theorem lookupP_ok {P:Program} {N:Nat} {Γ:G} {s:S} {a:Act} {w:World} {t:TypeId} {x ix:Operand} {ok:Bool} {q:PV} {o:Oper} (ho:o.op = .lookup t x ix ok) (h:lookupP P s.o t ok (s.ev x) (s.ev ix)=some q) (hI:Inv N Γ s a w) :
  ∃ y,RP w Γ q y∧∀ w',Same w w' → (execOp a.eval o).run P w' = .ok (.value y) w':=by
 unfold lookupP at h
 split at h
 ·rename_i k e1
  have hx:=S.ev_ok e1 hI
  split at h
  ·rename_i key kk e kk' ag es hkey hmp hob
   have hi:=keyP_ok hkey hI
   obtain ⟨kt,hu,hku⟩:=mp_run hmp
   split at h
   ·rename_i z hz
    obtain ⟨zv,hz1,hz2⟩:=zv_ok hz
    split at h
    ·rename_i hc
     obtain ⟨hc1,rfl⟩:=hc
     obtain ⟨h0,ms,ck,hb,hM⟩:=hI.m.ob k _ hob
     have hlt:Γ.β k < w.heap.size:=(Array.getElem?_eq_some_iff.1 hb).1
     have hb':∀ w',Same w w' → w'.heap[Γ.β k]? = some (.map ms ck):=fun w' hS=>(hS.block _ hlt).trans hb
     rcases find_ok hku.2 hc1 es ms.toList 0 hM.rows hM.kind with ⟨g1,g2,g3,g4⟩|⟨j,e0,m0,g1,g2,g3,g4,g5,g6,g7,g8⟩
     ·rw [g1] at h
      simp only [lkP,Option.some.injEq] at h
      subst h
      refine ⟨_,okP_ok (hz1 w Γ),fun w' hS=>?_⟩
      simp [execOp,ho,Instr.lookup,run_underlying hu,hx.2,MapKept.run_getObj_map (hb' w' hS),hi,MapKept.run_checkKey hku.1 (mk_isKey hku.2 hc1),MapKept.run_findKey hku.1 g4,hz2]
     ·rw [g5] at h
      simp only [lkP] at h
      obtain ⟨v,hv,rfl⟩:=Option.map_eq_some_iff.1 h
      refine ⟨_,okP_ok (rowP_ok hv g7),fun w' hS=>?_⟩
      simp [execOp,ho,Instr.lookup,run_underlying hu,hx.2,MapKept.run_getObj_map (hb' w' hS),hi,MapKept.run_checkKey hku.1 (mk_isKey hku.2 hc1),MapKept.run_findKey hku.1 g8]
    ·cases h
   ·cases h
  ·cases h
 ·rename_i e1
  have hx:=S.ev_ok e1 hI
  split at h
  ·rename_i key kk e hkey hmp
   have hi:=keyP_ok hkey hI
   obtain ⟨kt,hu,hku⟩:=mp_run hmp
   split at h
   ·rename_i z hz
    obtain ⟨zv,hz1,hz2⟩:=zv_ok hz
    split at h
    ·rename_i hc
     cases h
     refine ⟨_,okP_ok (hz1 w Γ),fun w' hS=>?_⟩
     have g4:Instr.findNow (descOf kk) key.v [] 0=some none:=rfl
     simp [execOp,ho,Instr.lookup,run_underlying hu,hx.1,hi,MapKept.run_checkKey hku.1 (mk_isKey hku.2 hc),MapKept.run_findKey hku.1 g4,hz2]
    ·cases h
   ·cases h
  ·cases h
 ·cases h
def pval (P:Program) (s:S):Op → Option PV
 | .move x=>s.ev x
 | .assign x=>s.ev x
 | .pick c x y=>pickP (s.ev c) (s.ev x) (s.ev y)
 | .build t parts=>buildP P t (parts.toList.map fun x=>(x.1,s.ev x.2))
 | .load t x=>loadP P s.o t (s.ev x)
 | .nilCheck x=>nilP (s.ev x)
 | .binOp op t x y _=>binP P op t (s.ev x) (s.ev y)
 | .unOp op _ x=>unP op (s.ev x)
 | .convert src dst x=>convP P src dst (s.ev x)
 | .makeFunc f first cap=>funP f (first.toList.map s.ev) (cap.toList.map s.ev)
 | .slice t x lo hi mx=>cutP P s.o t (s.ev x) (lo.map s.ev) (hi.map s.ev) (mx.map s.ev)
 | .fieldAddr t x f=>faP P t f (s.ev x)
 | .field t x f=>fdP P t f (s.ev x)
 | .indexAddr t x i=>ixP P t (s.ev x) (s.ev i)
 | .index t x i=>byteP P t (s.ev x) (s.ev i)
 | .extract x i=>exP i (s.ev x)
 | .lookup t x i ok=>lookupP P s.o t ok (s.ev x) (s.ev i)
 | .call ⟨.builtin .len,⟨[x]⟩,⟨[t]⟩⟩=>lenP P t (s.ev x)
 | .call ⟨.builtin .max,⟨l⟩,_⟩=>mxP true (l.map s.ev)
 | .call ⟨.builtin .min,⟨l⟩,_⟩=>mxP false (l.map s.ev)
 | _=>none
theorem pval_ok {P:Program} {N:Nat} {Γ:G} {s:S} {a:Act} {w:World} {q:PV} {o:Oper} (h:pval P s o.op=some q) (hI:Inv N Γ s a w) :
  ∃ y,RP w Γ q y∧∀ w',Same w w' → (execOp a.eval o).run P w' = .ok (.value y) w':=by
 unfold pval at h
 split at h
 case h_1 ho=>exact ⟨_,S.ev_ok h hI,fun w' _=>by simp [execOp,ho]⟩
 case h_2 ho=>exact ⟨_,S.ev_ok h hI,fun w' _=>by simp [execOp,ho]⟩
 case h_3 ho=>exact any_same (pickP_ok ho h hI)
 case h_4 ho=>exact any_same (buildP_ok ho h hI)
 case h_5 ho=>exact loadP_ok ho h hI
 case h_6 ho=>exact any_same (nilP_ok ho h hI)
 case h_7 ho=>exact any_same (binP_ok ho h hI)
 case h_8 ho=>exact any_same (unP_ok ho h hI)
 case h_9 ho=>exact convP_ok ho h hI
 case h_10 ho=>exact any_same (funP_ok ho h hI)
 case h_11 ho=>exact any_same (cutP_ok ho h hI)
 case h_12 ho=>exact any_same (faP_ok ho h hI)
 case h_13 ho=>exact any_same (fdP_ok ho h hI)
 case h_14 ho=>exact any_same (ixP_ok ho h hI)
 case h_15 ho=>exact any_same (byteP_ok ho h hI)
 case h_16 ho=>exact any_same (exP_ok ho h hI)
 case h_17 ho=>exact lookupP_ok ho h hI
 case h_18 ho=>exact any_same (lenP_ok ho h hI)
 case h_19 ho=>exact any_same (mxP_ok (mx:=true) ho h hI)
 case h_20 ho=>exact any_same (mxP_ok (mx:=false) ho h hI)
 case h_21=>cases h
def pfree:Op → Bool
 | .move _=>true
 | .assign _=>true
 | .pick .. => true
 | .build .. => true
 | .nilCheck _=>true
 | .binOp .. => true
 | .unOp .. => true
 | .makeFunc .. => true
 | .slice .. => true
 | .fieldAddr .. => true
 | .field .. => true
 | .indexAddr .. => true
 | .index .. => true
 | .extract .. => true
 | .call ⟨.builtin .len,_,_⟩=>true
 | .call ⟨.builtin .max,_,_⟩=>true
 | .call ⟨.builtin .min,_,_⟩=>true
 | _=>false
theorem pval_free {P:Program} {N:Nat} {Γ:G} {s:S} {a:Act} {w:World} {q:PV} {o:Oper} (hf:pfree o.op=true) (h:pval P s o.op=some q) (hI:Inv N Γ s a w) :
  ∃ y,RP w Γ q y∧∀ w',(execOp a.eval o).run P w' = .ok (.value y) w':=by
 unfold pval at h
 split at h
 case h_1 ho=>exact ⟨_,S.ev_ok h hI,fun w'=>by simp [execOp,ho]⟩
 case h_2 ho=>exact ⟨_,S.ev_ok h hI,fun w'=>by simp [execOp,ho]⟩
 case h_3 ho=>exact any_all (pickP_ok ho h hI)
 case h_4 ho=>exact any_all (buildP_ok ho h hI)
 case h_5 ho=>rw [ho] at hf;cases hf
 case h_6 ho=>exact any_all (nilP_ok ho h hI)
 case h_7 ho=>exact any_all (binP_ok ho h hI)
 case h_8 ho=>exact any_all (unP_ok ho h hI)
 case h_9 ho=>rw [ho] at hf;cases hf
 case h_10 ho=>exact any_all (funP_ok ho h hI)
 case h_11 ho=>exact any_all (cutP_ok ho h hI)
 case h_12 ho=>exact any_all (faP_ok ho h hI)
 case h_13 ho=>exact any_all (fdP_ok ho h hI)
 case h_14 ho=>exact any_all (ixP_ok ho h hI)
 case h_15 ho=>exact any_all (byteP_ok ho h hI)
 case h_16 ho=>exact any_all (exP_ok ho h hI)
 case h_17 ho=>rw [ho] at hf;cases hf
 case h_18 ho=>exact any_all (lenP_ok ho h hI)
 case h_19 ho=>exact any_all (mxP_ok (mx:=true) ho h hI)
 case h_20 ho=>exact any_all (mxP_ok (mx:=false) ho h hI)
 case h_21=>cases h
def upd {α:Type} (f:Nat → α) (k:Nat) (v:α):Nat → α:=fun i=>if i=k then v else f i
theorem upd_same {α:Type} (f:Nat → α) (k:Nat) (v:α):upd f k v k=v:=by simp [upd]
theorem upd_ne {α:Type} (f:Nat → α) {k i:Nat} (v:α) (h:i≠k):upd f k v i=f i:=by simp [upd,h]
def G.push (Γ:G) (b c:Nat):G:=⟨Γ.n+1,upd Γ.β Γ.n b,upd Γ.cap Γ.n c,Γ.I⟩
def G.imm (Γ:G) (b:Nat):G:=⟨Γ.n,Γ.β,Γ.cap,fun i=>Γ.I i∨i=b⟩
theorem push_agree (Γ:G) (b c:Nat):∀ k,k < Γ.n → Agree Γ (Γ.push b c) k:=fun k hk=>⟨by simp [G.push];omega,upd_ne _ _ (by omega),upd_ne _ _ (by omega)⟩
theorem RO.stay {w w':World} {Γ Γ':G} {k:Nat} {o:Ob} (h:RO w Γ k o) (hs:Stay w Γ.I w' Γ'.I) (ha:∀ j,j < Γ.n → Agree Γ Γ' j) (hk:k < Γ.n) (hb:0 < Γ.cap k → w'.heap[Γ.β k]? = w.heap[Γ.β k]?):RO w' Γ' k o:=by
 obtain ⟨_,h2,h3⟩:=ha k hk
 cases o with
 | box ty cs =>
  obtain ⟨h0,xs,h4,h5,h6⟩:=h
  exact ⟨by rw [h3];exact h0,xs,by rw [h2];exact (hb h0).trans h4,re_stay h5 hs fun j hj=>ha j (re_lt h5 j hj),by unfold Room;rw [h3];exact h6⟩
 | arr el sz rows =>
  obtain ⟨h4,h5,h6,h7⟩:=h
  refine ⟨h4,h5,by rw [h3];exact h6,fun hc=>?_⟩
  rw [h3] at hc ⊢
  obtain ⟨cur,g1,g2,g3,g4,g5⟩:=h7 hc
  exact ⟨cur,by rw [h2];exact (hb hc).trans g1,g2,g3,g4,g5.mono fun _ _=>RD.stay hs _ _⟩
 | map kk ag es =>
  obtain ⟨h0,ms,ck,h4,h5⟩:=h
  exact ⟨by rw [h3];exact h0,ms,ck,by rw [h2];exact (hb h0).trans h4,h5.stay hs⟩
 | loop l L t =>
  obtain ⟨h0,h1,tm,h4,h5,h6⟩:=h
  refine ⟨by rw [h3];exact h0,by rw [h2];exact h1,tm,?_,h5,fun i q hq=>⟨(h6 i q hq).1,(h6 i q hq).2.stay hs fun j hj=>ha j ((h6 i q hq).2.lt j hj)⟩⟩
  have:=hb h0
  rw [h1] at this
  exact this.trans h4
theorem mine_lt {Γ:G} {os:List Ob} {w:World} (hm:MemOk Γ os w) {k:Nat} (hk:k < Γ.n) (hc:0 < Γ.cap k):Γ.β k < w.heap.size:=by
 have hk':k < os.length:=by rw [← hm.n];exact hk
 have:=hm.ob k _ (List.getElem?_eq_getElem hk')
 generalize os[k]=o at this
 cases o with
 | box ty cs=>obtain ⟨_,xs,h,_⟩:=this;exact h.lt
 | arr el sz rows=>obtain ⟨_,_,_,h⟩:=this;obtain ⟨cur,h,_⟩:=h hc;exact h.lt
 | map kk ag es=>obtain ⟨_,ms,ck,h,_⟩:=this;exact (Array.getElem?_eq_some_iff.1 h).1
 | loop l L t=>obtain ⟨_,h1,tm,h,_⟩:=this;rw [h1];exact (Array.getElem?_eq_some_iff.1 h).1
theorem MemOk.same {Γ:G} {os:List Ob} {w w':World} (hm:MemOk Γ os w) (h:Same w w'):MemOk Γ os w':=by
 refine ⟨hm.n,fun k o ho=>?_,hm.sep,hm.off,fun b hb=>Nat.lt_of_lt_of_le (hm.lt b hb) h.size,hm.pins (h.stay Γ.I)⟩
 have hk:k < Γ.n:=by rw [hm.n];exact (List.getElem?_eq_some_iff.1 ho).1
 exact (hm.ob k o ho).stay (h.stay Γ.I) (fun j hj=>⟨hj,rfl,rfl⟩) hk fun hc=>h.block _ (mine_lt hm hk hc)
theorem MemOk.push {Γ:G} {os:List Ob} {w w':World} (hm:MemOk Γ os w) (h:Same w w') (o:Ob) (b c:Nat) (hro:RO w' (Γ.push b c) Γ.n o) (hb:0 < c → w.heap.size≤b):MemOk (Γ.push b c) (os++[o]) w':=by
 have hag:=push_agree Γ b c
 refine ⟨by simp [G.push,hm.n],fun k o' ho=>?_,fun k k' hk hk' hc hc' he=>?_,fun k hk hc=>?_,fun b' hb'=>Nat.lt_of_lt_of_le (hm.lt b' hb') h.size,hm.pins (h.stay Γ.I)⟩
 ·rcases Nat.lt_or_ge k os.length with hlt|hge
  ·rw [List.getElem?_append_left hlt] at ho
   have hk:k < Γ.n:=by rw [hm.n];exact hlt
   exact (hm.ob k o' ho).stay (h.stay Γ.I) hag hk fun hc=>h.block _ (mine_lt hm hk hc)
  ·rw [List.getElem?_append_right hge] at ho
   have:k=os.length:=by
    have:=(List.getElem?_eq_some_iff.1 ho).1
    simp at this
    omega
   subst this
   simp at ho
   subst ho
   rw [← hm.n]
   exact hro
 ·have hk1:k < Γ.n+1:=hk
  have hk2:k' < Γ.n+1:=hk'
  by_cases e1:k=Γ.n<;>by_cases e2:k'=Γ.n
  ·omega
  ·subst e1
   have hk'':k' < Γ.n:=by omega
   simp only [G.push,upd_same,upd_ne _ _ e2] at he hc hc'
   have:=mine_lt hm hk'' hc'
   have:=hb hc
   omega
  ·subst e2
   have hk'':k < Γ.n:=by omega
   simp only [G.push,upd_same,upd_ne _ _ e1] at he hc hc'
   have:=mine_lt hm hk'' hc
   have:=hb hc'
   omega
  ·simp only [G.push,upd_ne _ _ e1,upd_ne _ _ e2] at he hc hc'
   exact hm.sep k k' (by omega) (by omega) hc hc' he
 ·have hk1:k < Γ.n+1:=hk
  by_cases e1:k=Γ.n
  ·subst e1
   simp only [G.push,upd_same] at hc ⊢
   intro hI
   have:=hm.lt _ hI
   have:=hb hc
   omega
  ·simp only [G.push,upd_ne _ _ e1] at hc ⊢
   exact hm.off k (by omega) hc
theorem grow_push {p:Nat} {Γ:G} {os:List Ob} {w w':World} (hm:MemOk Γ os w) (h:Ext No w w') (b c:Nat) (hb:0 < c → w.heap.size≤b) (hp:p≤Γ.n):Grow p Γ w (Γ.push b c) w':=by
 refine ⟨h.no,fun _ h=>h,fun k hk hc=>?_,fun _ h=>.inl h,fun k hk=>⟨upd_ne _ _ (by omega),upd_ne _ _ (by omega)⟩⟩
 have hk1:k < Γ.n+1:=hk
 by_cases e1:k=Γ.n
 ·subst e1
  simp only [G.push,upd_same] at hc ⊢
  exact .inr (hb hc)
 ·simp only [G.push,upd_ne _ _ e1] at hc ⊢
  exact .inl ⟨k,by omega,hc,rfl⟩
theorem MemOk.imm {Γ:G} {os:List Ob} {w w':World} (hm:MemOk Γ os w) (h:Same w w') (b:Nat) (h1:w.heap.size≤b) (h2:b < w'.heap.size):MemOk (Γ.imm b) os w':=by
 have hm':=hm.same h
 refine ⟨hm.n,fun k o ho=>?_,hm.sep,fun k hk hc=>?_,fun b' hb'=>?_,hm.pins (Γ':=Γ.imm b) ⟨h.size,fun b' _ hb'=>h.block b' hb',fun _ h=>.inl h⟩⟩
 ·have hk:k < Γ.n:=by rw [hm.n];exact (List.getElem?_eq_some_iff.1 ho).1
  exact (hm'.ob k o ho).stay (w':=w') (Γ':=Γ.imm b) ⟨Nat.le_refl _,fun _ _ _=>rfl,fun _ h=>.inl h⟩ (fun j hj=>⟨hj,rfl,rfl⟩) hk fun _=>rfl
 ·rintro (hI|hI)
  ·exact hm.off k hk hc hI
  ·have h3:Γ.β k < w.heap.size:=mine_lt hm hk hc
   have h4:Γ.β k=b:=hI
   omega
 ·rcases hb' with hb'|rfl
  ·exact Nat.lt_of_lt_of_le (hm.lt _ hb') h.size
  ·exact h2
theorem grow_imm {p:Nat} {Γ:G} {w w':World} (h:Ext No w w') (b:Nat) (h1:w.heap.size≤b):Grow p Γ w (Γ.imm b) w':=by
 refine ⟨h.no,fun _ h=>.inl h,fun k hk hc=>.inl ⟨k,hk,hc,rfl⟩,fun b' hb'=>?_,fun k _=>⟨rfl,rfl⟩⟩
 rcases hb' with hb'|rfl
 ·exact .inl hb'
 ·exact .inr (.inr h1)
theorem imm_stay {Γ:G} {w w':World} (h:Same w w') (b:Nat):Stay w Γ.I w' (Γ.imm b).I:=⟨h.size,fun b' _ hb'=>h.block b' hb',fun _ h=>.inl h⟩
theorem MemOk.set_ {Γ:G} {os:List Ob} {w w':World} (hm:MemOk Γ os w) {k:Nat} (hk:k < Γ.n) (hc:0 < Γ.cap k) (h:Ext (· = Γ.β k) w w') (o:Ob) (hro:RO w' Γ k o):MemOk Γ (os.set k o) w'∧Stay w Γ.I w' Γ.I:=by
 have hs:Stay w Γ.I w' Γ.I:=⟨h.size,fun b hb hl=>h.block b hl fun e=>hm.off k hk hc (e ▸ hb),fun _ h=>h⟩
 refine ⟨⟨by simp [hm.n],fun j o' ho=>?_,hm.sep,hm.off,fun b hb=>Nat.lt_of_lt_of_le (hm.lt b hb) h.size,hm.pins hs⟩,hs⟩
 by_cases e:k=j
 ·subst e
  rw [List.getElem?_set_self (by rw [← hm.n];exact hk)] at ho
  cases ho
  exact hro
 ·rw [List.getElem?_set_ne e] at ho
  have hj:j < Γ.n:=by rw [hm.n];exact (List.getElem?_eq_some_iff.1 ho).1
  exact (hm.ob j o' ho).stay hs (fun i hi=>⟨hi,rfl,rfl⟩) hj fun hcj=>h.block _ (mine_lt hm hj hcj) fun e'=>e (hm.sep k j hk hj hc hcj e'.symm)
theorem grow_set {p:Nat} {Γ:G} {w w':World} {k:Nat} (hk:k < Γ.n) (hc:0 < Γ.cap k) (h:Ext (· = Γ.β k) w w'):Grow p Γ w Γ w' :=
 ⟨h.mono fun b hb=>⟨k,hk,hc,hb.symm⟩,fun _ h=>h,fun j hj hcj=>.inl ⟨j,hj,hcj,rfl⟩,fun _ h=>.inl h,fun _ _=>⟨rfl,rfl⟩⟩
theorem Inv.heap {N:Nat} {Γ Γ':G} {s:S} {a:Act} {w w':World} {os:List Ob} (hI:Inv N Γ s a w) (hm:MemOk Γ' os w') (hs:Stay w Γ.I w' Γ'.I) (ha:∀ j,j < Γ.n → Agree Γ Γ' j):Inv N Γ' ⟨s.t,os⟩ a w' :=
 ⟨hI.size,hI.defers,fun i q hq=>⟨(hI.t i q hq).1,(hI.t i q hq).2.stay hs fun k hk=>ha k ((hI.t i q hq).2.lt k hk)⟩,hm⟩
theorem Inv.same {N:Nat} {Γ:G} {s:S} {a:Act} {w w':World} (hI:Inv N Γ s a w) (h:Same w w'):Inv N Γ s a w':=hI.heap (hI.m.same h) (h.stay Γ.I) fun j hj=>⟨hj,rfl,rfl⟩
end Go.Proofs.YthhfpcbpiphfiaaGreatDoor
