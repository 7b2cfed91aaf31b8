/- What the program computes, and the plain laws of it, part 18. -/
import Derived.WideKeyEntry
import Derived.Test.YthhfpcbpiphfiaaGreatDoorR15
import Derived.Test.YthhfpcbpiphfiaaGreatDoorR17
namespace Go.Proofs.YthhfpcbpiphfiaaGreatDoor
attribute [local irreducible] PL QL PWPr PCalls Weak RetK Kontr PA
open Go.RowKit
open IntWalk renaming iteOmega → iO, toNatUp → tN
set_option linter.unusedVariables false
set_option linter.unusedSimpArgs false
set_option maxRecDepth 20000
theorem gbyte_pure (b:UInt8):PCalls Tryz.prog 84 [.c (.v (.int .u8 b.toNat))] [] fun r os=>r = .c (.v (.bool (textB b)))∧os=[]:=by
 have hb:=b.toNat_lt
 refine pcalls_of Tryz.func84 rfl (by simp [Tryz.ntmps84]) ?_
 rw [Tryz.ntmps84,Tryz.results84]
 push_cast [iO,tN]
 by_cases h1:(32:Int)≤(b.toNat:Int)
 ·by_cases h2:(b.toNat:Int)≤126
  ·have e:textB b=true:=by unfold textB;rw [decide_eq_true (by omega),decide_eq_true (by omega)];rfl
   rw [e]
   repeat' (first|((first|refine pG ?_|refine pQ ?_|refine pU ?_);push_cast [iO,tN,h1,h2])|(refine pif (fun h=>?_) (fun h=>?_)<;>first|exact pN h|push_cast [iO,tN,h1,h2]))
   (refine retK_of [] ?_;push_cast [iO,tN])
  ·have e:textB b=false:=by unfold textB;rw [decide_eq_false (p:=b.toNat≤126) (by omega),Bool.and_false]
   rw [e]
   repeat' (first|((first|refine pG ?_|refine pQ ?_|refine pU ?_);push_cast [iO,tN,h1,h2])|(refine pif (fun h=>?_) (fun h=>?_)<;>first|exact pN h|push_cast [iO,tN,h1,h2]))
   (refine retK_of [] ?_;push_cast [iO,tN])
 ·have e:textB b=false:=by unfold textB;rw [decide_eq_false (by omega)];rfl
  rw [e]
  repeat' (first|((first|refine pG ?_|refine pQ ?_|refine pU ?_);push_cast [iO,tN,h1])|(refine pif (fun h=>?_) (fun h=>?_)<;>first|exact pN h|push_cast [iO,tN,h1]))
  (refine retK_of [] ?_;push_cast [iO,tN])
theorem gprint_pure (s:ByteArray) (hs:s.size≤9223372036854775807):PCalls Tryz.prog 64 [.c (.v (.string s))] [] fun r os=>r = .c (.v (.bool (s.data.toList.all textB)))∧os=[]:=by
 refine pcalls_of Tryz.func64 rfl (by simp [Tryz.ntmps64]) ?_
 rw [Tryz.ntmps64,Tryz.results64]
 push_cast [iO,tN]
 have cB:CutB 4 []:=trivial
 repeat' (first|((first|refine pC ?_|refine pQC ?_|refine pU ?_);push_cast [iO,tN])|(refine pif (fun h=>?_) (fun h=>?_)<;>first|exact pN h|push_cast [iO,tN]))
 (apply pwp_loop3 (α:=Nat) 4 [] (fun k=>[(3,.c (.v (.int .i64 k)))]) (fun k=>[]) (fun k=>k≤s.size∧(s.data.toList.take k).all textB=true) (fun k=>s.size - k) (0);(focus ((try push_cast [iO,tN]);rfl));(focus exact ⟨by omega,rfl⟩);(focus ((refine weak_fg ?_;try push_cast [iO,tN]))))
 rintro k ⟨hk,ha⟩
 push_cast [iO,tN]
 have hb:=gbyte_pure (s.data.toList.getD k 0)
 by_cases hlt:k < s.size
 ·cases hx:textB (s.data.toList.getD k 0)
  ·have e:=all_not hlt hx
   rw [hx] at hb
   repeat' (first |  (refine plc [] (hb) ?_ ?_;push_cast [iO,tN];rintro r os ⟨rfl,rfl⟩;push_cast [iO,tN])  | ((first|refine pC ?_|refine pQC ?_|refine pU ?_);push_cast [iO,tN])|(refine pif (fun h=>?_) (fun h=>?_)<;>first|exact pN h|push_cast [iO,tN]))
   (refine retK_of [] ?_;push_cast [iO,tN])
   rw [e]
  ·have e:=all_next hlt ha hx
   rw [hx] at hb
   repeat' (first |  (refine plc [] (hb) ?_ ?_;push_cast [iO,tN];rintro r os ⟨rfl,rfl⟩;push_cast [iO,tN])  | ((first|refine pC ?_|refine pQC ?_|refine pU ?_);push_cast [iO,tN])|(refine pif (fun h=>?_) (fun h=>?_)<;>first|exact pN h|push_cast [iO,tN]))
   exact ⟨k+1,⟨by omega,e⟩,by (refine weak_fg ?_;push_cast [iO,tN]),by omega⟩
 ·have hk2:k=s.size:=by omega
  subst hk2
  have he:s.data.toList.take s.size=s.data.toList:=List.take_of_length_le (Nat.le_refl _)
  rw [he] at ha
  repeat' (first|((first|refine pC ?_|refine pQC ?_|refine pU ?_);push_cast [iO,tN])|(refine pif (fun h=>?_) (fun h=>?_)<;>first|exact pN h|push_cast [iO,tN]))
  (refine retK_of [] ?_;push_cast [iO,tN])
  rw [ha]
end Go.Proofs.YthhfpcbpiphfiaaGreatDoor
namespace Go.Proofs.YthhfpcbpiphfiaaGreatDoor
open Go.RowKit
open IntWalk renaming iteOmega → iO, toNatUp → tN
set_option linter.unusedVariables false
set_option linter.unusedSimpArgs false
theorem fillN_app (cs:List Bool) (a:Nat):∀ n,a+n≤cs.length → fillN (cs++[false]) a n=fillN cs a n++[false]
 | 0,_=>rfl
 | n+1,h=>by rw [fillN,fillN,fillN_app cs a n (by omega),List.set_append_left _ _ (by rw [fillN_len];omega)]
theorem memTo_le {p:ByteArray} (hb:∀ k,byt p k≤126) (i:Nat):(memTo p i).toNat≤126:=by
 unfold memTo
 split
 ·exact UInt8.le_iff_toNat_le.1 (hb _)
 ·exact UInt8.le_iff_toNat_le.1 (hb _)
theorem memS_app {p:ByteArray} (hb:∀ k,byt p k≤126) (i:Nat) {cs:List Bool} (hc:cs.length=127):memS p i (cs++[false])=memS p i cs++[false]:=by
 have h1:=memTo_le hb i
 have h2:(byt p i).toNat≤126:=UInt8.le_iff_toNat_le.1 (hb i)
 unfold memS
 exact fillN_app cs _ _ (by omega)
theorem bsetGo_app {p:ByteArray} (hb:∀ k,byt p k≤126):∀ {i:Nat} {cs:List Bool},cs.length=127 → bsetGo p i (cs++[false])=(bsetGo p i cs).map fun r=>(r.1++[false],r.2):=by
 intro i
 induction i using (measure fun i=>p.size - i).wf.induction with
 | _ i ih =>
  intro cs hc
  have hm:=memAt_lt p i
  rw [bsetGo]
  conv=>rhs;rw [bsetGo]
  by_cases h1:p.size≤i
  ·rw [dif_pos h1,dif_pos h1];rfl
  rw [dif_neg h1,dif_neg h1]
  by_cases h2:byt p i=93
  ·rw [if_pos h2,if_pos h2];rfl
  rw [if_neg h2,if_neg h2]
  by_cases h3:byt p i≤memTo p i
  ·rw [if_pos h3,if_pos h3,memS_app hb i hc]
   exact ih (memAt p i) (by show p.size - memAt p i < p.size - i;omega) (by rw [memS_len,hc])
  ·rw [if_neg h3,if_neg h3];rfl
def lowF (cs:List Bool):Prop:=∀ c,c < 32 → cs.getD c false=false
theorem lowF_memS {p:ByteArray} {i:Nat} {cs:List Bool} (h:32≤(byt p i).toNat) (hl:lowF cs):lowF (memS p i cs):=fun c hc=>by
 unfold memS
 rw [fillN_get,hl c hc,decide_eq_false (by omega:¬((byt p i).toNat≤c∧_))]
 rfl
theorem bsetGo_low {p:ByteArray} (hb:∀ k,k < p.size → 32≤(byt p k).toNat):∀ {i:Nat} {cs:List Bool} {r:List Bool × Nat},lowF cs → bsetGo p i cs=some r → lowF r.1:=by
 intro i
 induction i using (measure fun i=>p.size - i).wf.induction with
 | _ i ih =>
  intro cs r hl h
  have hm:=memAt_lt p i
  rw [bsetGo] at h
  by_cases h1:p.size≤i
  ·rw [dif_pos h1] at h;cases h
  rw [dif_neg h1] at h
  by_cases h2:byt p i=93
  ·rw [if_pos h2] at h;cases h;exact hl
  rw [if_neg h2] at h
  by_cases h3:byt p i≤memTo p i
  ·rw [if_pos h3] at h
   exact ih (memAt p i) (by show p.size - memAt p i < p.size - i;omega) (lowF_memS (hb i (by omega)) hl) h
  ·rw [if_neg h3] at h;cases h
theorem noneS_low:lowF noneS:=fun c hc=>by
 unfold noneS
 rw [List.getD_eq_getElem?_getD,List.getElem?_replicate]
 split<;>rfl
theorem notN_get (cs:List Bool) (hc:cs.length=127) (c:Nat):∀ n,n≤95 → (notN cs n).getD c false=if 32≤c∧c < 32+n then !cs.getD c false else cs.getD c false
 | 0,_=>by rw [notN,if_neg (by omega)]
 | n+1,h=>by
  rw [notN,everyL_get (by omega),Bool.true_and,List.getD_eq_getElem?_getD]
  by_cases e:32+n=c
  ·subst e
   rw [List.getElem?_set_self (by rw [notN_len,hc];omega),notN_get cs hc (32+n) n (by omega),if_neg (by omega),if_pos (by omega)];rfl
  ·rw [List.getElem?_set_ne e,← List.getD_eq_getElem?_getD,notN_get cs hc c n (by omega)]
   by_cases h2:32≤c∧c < 32+n
   ·rw [if_pos h2,if_pos (by omega)]
   ·rw [if_neg h2,if_neg (by omega)]
theorem text_byt {p:ByteArray} (h:p.data.toList.all textB=true) (k:Nat):byt p k≤126:=by
 unfold byt
 by_cases hk:k < p.data.toList.length
 ·rw [List.getD_eq_getElem?_getD,List.getElem?_eq_getElem hk]
  have:=List.all_eq_true.1 h _ (List.getElem_mem hk)
  unfold textB at this
  simp only [Bool.and_eq_true,decide_eq_true_eq] at this
  exact UInt8.le_iff_toNat_le.2 this.2
 ·rw [List.getD_eq_getElem?_getD,List.getElem?_eq_none (by omega)];decide
theorem text_lo {p:ByteArray} (h:p.data.toList.all textB=true) (k:Nat) (hk:k < p.size):32≤(byt p k).toNat:=by
 unfold byt
 have hk':k < p.data.toList.length:=hk
 rw [List.getD_eq_getElem?_getD,List.getElem?_eq_getElem hk']
 have:=List.all_eq_true.1 h _ (List.getElem_mem hk')
 unfold textB at this
 simp only [Bool.and_eq_true,decide_eq_true_eq] at this
 exact this.1
def outN (cs:List Bool) (nq:Bool):Nat → List Bool
 | 0=>List.replicate 128 false
 | k+1=>(outN cs nq k).set (32+k) (cs.getD (32+k) false != nq)
theorem outN_len (cs:List Bool) (nq:Bool):∀ n,(outN cs nq n).length=128
 | 0=>rfl
 | n+1=>by rw [outN,List.length_set,outN_len cs nq n]
theorem outN_get (cs:List Bool) (nq:Bool) (c:Nat):∀ n,n≤95 → (outN cs nq n).getD c false=(decide (32≤c∧c < 32+n) && (cs.getD c false != nq))
 | 0,_=>by
  rw [decide_eq_false (by omega),Bool.false_and,outN,List.getD_eq_getElem?_getD,List.getElem?_replicate]
  split<;>rfl
 | n+1,h=>by
  rw [outN,List.getD_eq_getElem?_getD]
  by_cases e:32+n=c
  ·subst e
   rw [List.getElem?_set_self (by rw [outN_len];omega),decide_eq_true (by omega)];simp
  ·rw [List.getElem?_set_ne e,← List.getD_eq_getElem?_getD,outN_get cs nq c n (by omega)]
   by_cases h2:32≤c∧c < 32+n
   ·rw [decide_eq_true h2,decide_eq_true (by omega)]
   ·rw [decide_eq_false h2,decide_eq_false (by omega)]
theorem outN_not {cs:List Bool} (hc:cs.length=127) (hl:lowF cs) (nq:Bool) {n:Nat} (h95:n=95):outN (cs++[false]) nq n=(if nq then notN cs n else cs)++[false]:=by
 have h127:∀ c,127≤c → (cs++[false]).getD c false=false:=fun c h=>by
  rw [List.getD_eq_getElem?_getD]
  by_cases e:c=127
  ·subst e;rw [List.getElem?_append_right (by omega),hc];rfl
  ·rw [List.getElem?_eq_none (by rw [List.length_append,hc];show 127+1≤c;omega)];rfl
 apply List.ext_getElem
 ·rw [outN_len,List.length_append];cases nq
  ·show 128=cs.length+1;omega
  ·show 128=(notN cs n).length+1;rw [notN_len];omega
 intro c h1 h2
 have h1':c < 128:=by rw [outN_len] at h1;exact h1
 have e1:(outN (cs++[false]) nq n)[c]=(outN (cs++[false]) nq n).getD c false:=by rw [List.getD_eq_getElem?_getD,List.getElem?_eq_getElem h1];rfl
 have e2:((if nq then notN cs n else cs)++[false])[c]=((if nq then notN cs n else cs)++[false]).getD c false:=by rw [List.getD_eq_getElem?_getD,List.getElem?_eq_getElem h2];rfl
 rw [e1,e2,outN_get _ _ _ _ (by omega)]
 have hn:=notN_get cs hc c n (by omega)
 have hln:(notN cs n).length=127:=by rw [notN_len,hc]
 by_cases h3:c < 127
 ·have e3:∀ l:List Bool,l.length=127 → (l++[false]).getD c false=l.getD c false:=fun l hl=>by
   rw [List.getD_eq_getElem?_getD,List.getElem?_append_left (by omega),← List.getD_eq_getElem?_getD]
  rw [e3 cs hc]
  cases nq
  ·show _=(cs++[false]).getD c false
   rw [e3 cs hc]
   by_cases h4:32≤c
   ·rw [decide_eq_true (by omega)];simp
   ·rw [hl c (by omega)];simp
  ·show _=(notN cs n++[false]).getD c false
   rw [e3 _ hln]
   rw [hn]
   by_cases h4:32≤c
   ·rw [decide_eq_true (by omega),if_pos (by omega)];simp
   ·rw [decide_eq_false (by omega),if_neg (by omega),hl c (by omega)];rfl
 ·have e5:c=127:=by omega
  subst e5
  rw [decide_eq_false (by omega)]
  cases nq
  ·show _=(cs++[false]).getD 127 false
   rw [h127 127 (Nat.le_refl _)];rfl
  ·show _=(notN cs n++[false]).getD 127 false
   have e6:(notN cs n++[false]).getD 127 false=false:=by rw [List.getD_eq_getElem?_getD,List.getElem?_append_right (by omega),hln];rfl
   rw [e6];rfl
end Go.Proofs.YthhfpcbpiphfiaaGreatDoor
namespace Go.Proofs.YthhfpcbpiphfiaaGreatDoor
attribute [local irreducible] PL QL PWPr PCalls Weak RetK Kontr PA
open Go.RowKit
open IntWalk renaming iteOmega → iO, toNatUp → tN
theorem hasp_pure (s p:ByteArray):PCalls Tryz.prog 85 [.c (.v (.string s)),.c (.v (.string p))] [] fun r os=>r = .c (.v (.bool (Lib.hasPrefix s.data.toList p.data.toList)))∧os=[] :=
 pcalls_plain [.string s,.string p] _ rfl fun w _=>(strings_HasPrefix s p w).mono fun e w' ⟨he,hw⟩=>by rw [he,hw];exact ⟨rfl,Below.refl _ _⟩
structure HidM (X:Prop):Prop where
 out:X
theorem meet {X Y:Prop} (f:HidM X → Y) (x:X):Y:=f ⟨x⟩
end Go.Proofs.YthhfpcbpiphfiaaGreatDoor
namespace Go.Proofs.YthhfpcbpiphfiaaGreatDoor
open Go.RowKit
open IntWalk renaming iteOmega → iO, toNatUp → tN
set_option linter.unusedVariables false
set_option linter.unusedSimpArgs false
def nestE {α:Type} (sz:Nat) (f:α → List D) (asv:List (List α)) (x:E) (m:Nat):List E:=asv.map (fun a=>E.sl sz (a.map f))++x :: List.replicate m .any
section
variable {α:Type} {sz:Nat} {f:α → List D}
theorem nest_len (asv:List (List α)) (x:E) (m:Nat):(nestE sz f asv x m).length=asv.length+(m+1):=by simp [nestE]
theorem nest_get (asv:List (List α)) (x:E) (m:Nat):(nestE sz f asv x m)[asv.length]? = some x:=by simp [nestE]
theorem nest_set (asv:List (List α)) (x y:E) (m:Nat):(nestE sz f asv x m).set asv.length y=nestE sz f asv y m:=by simp [nestE]
theorem nest_drop (asv:List (List α)) (x:E) (m:Nat):(nestE sz f asv x m).drop asv.length=x :: List.replicate m .any:=by
 unfold nestE
 rw [List.drop_left' (by simp)]
theorem nest_put (asv:List (List α)) (x y:E) (m:Nat):(nestE sz f asv x m).take asv.length++y :: (nestE sz f asv x m).drop (asv.length+1)=nestE sz f asv y m:=by
 unfold nestE
 rw [List.take_left' (by simp),← List.drop_drop,List.drop_left' (by simp)]
 rfl
theorem nest_kill (asv:List (List α)) (x:E) (m k:Nat):(nestE sz f asv x m).map (E.kill k)=nestE sz f asv (x.kill k) m:=by
 simp [nestE,E.kill,Function.comp_def]
theorem nest_frz (asv:List (List α)) (x:E) (m k z:Nat) (rows:List (List D)):(nestE sz f asv x m).map (E.frz k z rows)=nestE sz f asv (x.frz k z rows) m:=by
 simp [nestE,E.frz,Function.comp_def]
theorem nest_app (asv:List (List α)) (cur:List α) (y:E) (m m' k:Nat):((nestE sz f asv (.sl sz (cur.map f)) m).take (asv.length+1)).map (E.kill k)++y :: List.replicate m' .any=nestE sz f (asv++[cur]) y m':=by
 have e:(nestE sz f asv (.sl sz (cur.map f)) m).take (asv.length+1)=asv.map (fun a=>E.sl sz (a.map f))++[.sl sz (cur.map f)]:=by
  unfold nestE
  rw [show asv.map (fun a=>E.sl sz (a.map f))++E.sl sz (cur.map f) :: List.replicate m .any=(asv.map (fun a=>E.sl sz (a.map f))++[.sl sz (cur.map f)])++List.replicate m .any by simp]
  exact List.take_left' (by simp)
 rw [e]
 simp [nestE,E.kill,Function.comp_def]
theorem toDs_sl (asv:List (List α)):toDs (asv.map fun a=>E.sl sz (a.map f))=some (asv.map fun a=>D.sl sz (a.map f)):=by
 induction asv with
 | nil=>rfl
 | cons a asv ih=>simp only [List.map_cons,toDs,toD,ih]
theorem nest_toDs (asv:List (List α)) (cur:List α) (m:Nat):toDs ((nestE sz f asv (.sl sz (cur.map f)) m).take (asv.length+1))=some ((asv++[cur]).map fun a=>D.sl sz (a.map f)):=by
 unfold nestE
 rw [show asv.map (fun a=>E.sl sz (a.map f))++E.sl sz (cur.map f) :: List.replicate m .any=((asv++[cur]).map fun a=>E.sl sz (a.map f))++List.replicate m .any by simp]
 rw [List.take_left' (by simp),toDs_sl]
theorem nest_one (x:E):[x]=nestE sz f [] x 0:=by simp [nestE]
theorem seeEs_app (v:Bool) (os:List Ob) (ks:List Nat):∀ (a b:List E),seeEs v os ks (a++b)=(seeEs v os ks a).bind fun a'=>(seeEs v os ks b).map fun b'=>a'++b'
 | [],b=>by simp [seeEs]
 | x :: a,b=>by
  simp only [List.cons_append,seeEs,seeEs_app v os ks a b]
  cases seeE v os ks x<;>cases seeEs v os ks a<;>cases seeEs v os ks b<;>rfl
theorem seeEs_sl (v:Bool) (os:List Ob) (ks:List Nat) (asv:List (List α)):seeEs v os ks (asv.map fun a=>E.sl sz (a.map f))=some (asv.map fun a=>E.sl sz (a.map f)):=by
 induction asv with
 | nil=>rfl
 | cons a asv ih=>simp only [List.map_cons,seeEs,seeE,ih]
theorem seeEs_any (v:Bool) (os:List Ob) (ks:List Nat):∀ m,seeEs v os ks (List.replicate m .any)=some (List.replicate m .any)
 | 0=>rfl
 | m+1=>by simp only [List.replicate_succ,seeEs,seeE,seeEs_any v os ks m]
theorem nest_see (v:Bool) (os:List Ob) (ks:List Nat) (asv:List (List α)) (x:E) (m:Nat):seeEs v os ks (nestE sz f asv x m)=(seeE v os ks x).map fun y=>nestE sz f asv y m:=by
 unfold nestE
 rw [seeEs_app,seeEs_sl]
 simp only [seeEs,seeEs_any,Option.bind_some]
 cases seeE v os ks x<;>rfl
theorem nest_ok (n:Nat) (asv:List (List α)) (x:E) (m:Nat):(nestE sz f asv x m).all (keyOk n)=keyOk n x:=by
 unfold nestE
 rw [List.all_append,List.all_cons]
 have h1:(asv.map fun a=>E.sl sz (a.map f)).all (keyOk n)=true:=by rw [List.all_eq_true];intro e he;obtain ⟨a,_,rfl⟩:=List.mem_map.1 he;rfl
 have h2:(List.replicate m E.any).all (keyOk n)=true:=by rw [List.all_eq_true];intro e he;rw [List.mem_replicate] at he;rw [he.2];rfl
 rw [h1,h2];simp
end
attribute [push_cast] Nat.add_zero nest_drop nest_len nest_get nest_set nest_put nest_kill nest_frz nest_see nest_ok nest_app
theorem two_put (c0 c1:E) (l:List E) (k:Nat) (x:E) (h:k < l.length):(c0 :: c1 :: l).take (2+k)++x :: (c0 :: c1 :: l).drop (2+k+1)=c0 :: c1 :: l.set k x:=by
 rw [show 2+k=k+2 by omega,show k+2+1=(k+1)+2 by omega]
 simp only [List.take_succ_cons,List.drop_succ_cons,List.cons_append]
 congr 2
 rw [List.set_eq_take_append_cons_drop,if_pos h]
end Go.Proofs.YthhfpcbpiphfiaaGreatDoor
namespace Go.Proofs.YthhfpcbpiphfiaaGreatDoor
attribute [local irreducible] PL QL PWPr PCalls Weak RetK Kontr PA
open Go.RowKit
open IntWalk renaming iteOmega → iO, toNatUp → tN
set_option linter.unusedVariables false
set_option linter.unusedSimpArgs false
set_option maxRecDepth 20000
abbrev elC (l:List Bool):List E:=.v (.bool false) :: .v (.bool false) :: l.map boolE
set_option maxRecDepth 20000 in
set_option maxHeartbeats 4000000 in
theorem gset_pure (p:ByteArray) (i:Nat) (hi:i≤p.size) (hp:p.size≤1000000) (hb:∀ k,byt p k≤126) (hlo:∀ k,k < p.size → 32≤(byt p k).toNat) :
  PCalls Tryz.prog 65 [.c (.v (.string p)),.c (.v (.int .i64 i)),.c (.ptr 0 0)] [.box 135 (elC (List.replicate 128 false))] fun r os =>
   match bsetM p i with
   | none=>r = .two (.c (.v (.int .i64 0))) (.c (.v (.bool false)))∧os=[.box 135 (elC (List.replicate 128 false))]
   | some q=>r = .two (.c (.v (.int .i64 ((q.2:Int) - 1)))) (.c (.v (.bool true)))∧os=[.box 135 (elC (q.1++[false]))]:=by
 refine pcalls_of Tryz.func65 rfl (by simp [Tryz.ntmps65]) ?_
 rw [Tryz.ntmps65,Tryz.results65]
 push_cast [-List.reduceReplicate,iO,tN]
 have cB:CutB 13 []:=trivial
 have hJi:=setJ_le p i
 refine pwp_seq fun K0 hK0=>?_
 refine pwp_region ?_
 push_cast [-List.reduceReplicate,iO,tN]
 refine Kont.use (by assumption) ?_
 apply meet
 ·intro H
  by_cases hs:i < p.size
  case neg =>
   have hs':¬ (i:Int) < (p.size:Int):=by omega
   have hnq:notQ p i=false:=by unfold notQ;rw [decide_eq_false hs];rfl
   have hJ:setJ p i=i:=by unfold setJ;rw [hnq];rfl
   refine pwp_seq fun K hK=>?_
   refine pwp_region ?_
   push_cast [-List.reduceReplicate,iO,tN,hs']
   refine Kont.use (by assumption) ?_
   refine pwp_seq fun K2 hK2=>?_
   refine pwp_seq fun K3 hK3=>?_
   refine pwp_region ?_
   push_cast [-List.reduceReplicate,iO,tN,hs']
   refine Kont.use (by assumption) ?_
   refine pwp_cond ?_
   push_cast [-List.reduceReplicate,iO,tN,hs']
   refine pwp_skip ?_
   push_cast [-List.reduceReplicate,iO,tN]
   refine Kont.use (by assumption) ?_
   refine pwp_weak (s':=⟨[(8,.c (.v (.bool (notQ p i)))),(1,.c (.v (.int .i64 (setJ p i:Int)))),(0,.c (.v (.string p))),(2,.c (.ptr 0 0)),(6,.c (.v (.int .i64 0))),(7,.c (.v (.bool false)))],[.box 135 (elC (List.replicate 128 false))]⟩) (by (refine weak_fg ?_;push_cast [-List.reduceReplicate,iO,tN,hnq,hJ])) ?_
   exact H.out
  by_cases h33:byt p i=33
  case pos =>
   have hg:p.data.toList.getD i 0=33:=h33
   have hnq:notQ p i=true:=by unfold notQ;rw [decide_eq_true hs,h33];rfl
   have hJ:setJ p i=i+1:=by unfold setJ;rw [hnq];rfl
   refine pwp_seq fun K hK=>?_
   refine pwp_region ?_
   push_cast [-List.reduceReplicate,iO,tN,hs,hg]
   refine Kont.use (by assumption) ?_
   refine pwp_seq fun K2 hK2=>?_
   refine pwp_seq fun K3 hK3=>?_
   refine pwp_region ?_
   push_cast [-List.reduceReplicate,iO,tN,hs,hg]
   refine Kont.use (by assumption) ?_
   refine pwp_cond ?_
   push_cast [-List.reduceReplicate,iO,tN,hs,hg]
   repeat' (first|(refine Kont.use hK3 ?_)|(refine pwp_seq fun K hK=>?_)|(refine pwp_region ?_;push_cast [-List.reduceReplicate,iO,tN]))
   refine Kont.use (by assumption) ?_
   refine pwp_weak (s':=⟨[(8,.c (.v (.bool (notQ p i)))),(1,.c (.v (.int .i64 (setJ p i:Int)))),(0,.c (.v (.string p))),(2,.c (.ptr 0 0)),(6,.c (.v (.int .i64 0))),(7,.c (.v (.bool false)))],[.box 135 (elC (List.replicate 128 false))]⟩) (by (refine weak_fg ?_;push_cast [-List.reduceReplicate,iO,tN,hnq,hJ])) ?_
   exact H.out
  have hg:p.data.toList.getD i 0=byt p i:=rfl
  have h33n:¬ (byt p i).toNat=33:=fun e=>h33 (UInt8.toNat_inj.1 e)
  have hnq:notQ p i=false:=by unfold notQ;rw [beq_eq_false_iff_ne.2 h33,Bool.and_false]
  have hJ:setJ p i=i:=by unfold setJ;rw [hnq];rfl
  refine pwp_seq fun K hK=>?_
  refine pwp_region ?_
  push_cast [-List.reduceReplicate,iO,tN,hs,hg,h33,h33n]
  refine Kont.use (by assumption) ?_
  refine pwp_seq fun K2 hK2=>?_
  refine pwp_seq fun K3 hK3=>?_
  refine pwp_region ?_
  push_cast [-List.reduceReplicate,iO,tN,hs,hg,h33,h33n]
  refine Kont.use (by assumption) ?_
  refine pwp_cond ?_
  push_cast [-List.reduceReplicate,iO,tN,hs,hg,h33,h33n]
  refine ⟨fun h=>absurd (of_decide_eq_true h) (by omega),fun _=>?_⟩
  refine pwp_skip ?_
  push_cast [-List.reduceReplicate,iO,tN]
  refine Kont.use (by assumption) ?_
  refine pwp_weak (s':=⟨[(8,.c (.v (.bool (notQ p i)))),(1,.c (.v (.int .i64 (setJ p i:Int)))),(0,.c (.v (.string p))),(2,.c (.ptr 0 0)),(6,.c (.v (.int .i64 0))),(7,.c (.v (.bool false)))],[.box 135 (elC (List.replicate 128 false))]⟩) (by (refine weak_fg ?_;push_cast [-List.reduceReplicate,iO,tN,hnq,hJ,(decide_eq_false (by omega:¬ ((byt p i).toNat:Int)=33))])) ?_
  exact H.out
 obtain ⟨J,hJ⟩:∃ J,setJ p i=J:=⟨_,rfl⟩
 obtain ⟨nq,hnq⟩:∃ nq,notQ p i=nq:=⟨_,rfl⟩
 have hJs:J≤p.size:=by
  rw [← hJ]
  unfold setJ notQ
  split
  ·rename_i h;simp only [Bool.and_eq_true,decide_eq_true_eq] at h;omega
  ·exact hi
 rw [hJ,hnq]
 rw [hJ] at hJi
 have z128:(List.replicate 128 (E.v (.bool false)))=(noneS++[false]).map boolE:=by rw [List.map_append,noneS_rep];rfl
 obtain ⟨c0,hc0⟩:∃ c0,noneS++[false]=c0:=⟨_,rfl⟩
 have hc1:c0.length=128:=by rw [← hc0];rfl
 rw [hc0] at z128
 repeat' (first|((first|refine pC ?_|refine pQC ?_|refine pU ?_);push_cast [-List.reduceReplicate,iO,tN])|(refine pif (fun h=>?_) (fun h=>?_)<;>first|exact pN h|push_cast [-List.reduceReplicate,iO,tN]))
 rw [z128]
 (apply pwp_loop3 (α:=Nat × List Bool) 13 [] (fun x=>[(1,.c (.v (.int .i64 x.1)))]) (fun x=>[(1,.box 133 (x.2.map boolE))]) (fun x=>J≤x.1∧x.1≤p.size∧x.2.length=128∧bsetGo p J c0=bsetGo p x.1 x.2∧(J < x.1 → byt p J≠93)) (fun x=>p.size - x.1) ((J,c0));(focus ((try push_cast [-List.reduceReplicate,iO,tN]);rfl));(focus exact ⟨Nat.le_refl _,hJs,hc1,rfl,fun h=>absurd h (by simp)⟩);(focus ((refine weak_fg ?_;try push_cast [-List.reduceReplicate,iO,tN]))))
 rintro ⟨j,cs⟩ ⟨h1,h2,h3,h4,h5⟩
 simp only at h1 h2 h3 h4 h5 ⊢
 push_cast [-List.reduceReplicate,iO,tN]
 have happ:=bsetGo_app hb (i:=J) (cs:=noneS) rfl
 rw [hc0] at happ
 have hnone:bsetGo p j cs=none → bsetM p i=none:=fun h=>by
  unfold bsetM
  rw [hJ]
  by_cases hq:p.size≤J∨byt p J=93
  ·rw [if_pos hq]
  ·rw [if_neg hq]
   rw [← h4,happ] at h
   rw [Option.map_eq_none_iff.1 h]
 by_cases hlt:j < p.size
 case neg =>
  have hR:=hnone (by rw [bsetGo,dif_pos (by omega)])
  repeat' (first|((first|refine pC ?_|refine pQC ?_|refine pU ?_);push_cast [-List.reduceReplicate,iO,tN])|(refine pif (fun h=>?_) (fun h=>?_)<;>first|exact pN h|push_cast [-List.reduceReplicate,iO,tN]))
  (refine retK_of [0] ?_;push_cast [-List.reduceReplicate,iO,tN,hR])
 obtain ⟨g0,g1,g2⟩:p.data.toList.getD j 0=byt p j∧p.data.toList.getD (j+1) 0=byt p (j+1)∧p.data.toList.getD (j+2) 0=byt p (j+2):=⟨rfl,rfl,rfl⟩
 by_cases h93:byt p j=93
 case pos =>
  by_cases hjJ:j=J
  ·have hR:bsetM p i=none:=by unfold bsetM;rw [hJ,if_pos (.inr (hjJ ▸ h93))]
   have hcJ:((j:Int)=(J:Int))=True:=eq_true (by omega)
   repeat' (first|((first|refine pC ?_|refine pQC ?_|refine pU ?_);push_cast [-List.reduceReplicate,iO,tN,hlt,g0,h93,hcJ])|(refine pif (fun h=>?_) (fun h=>?_)<;>first|exact pN h|push_cast [-List.reduceReplicate,iO,tN,hlt,g0,h93,hcJ]))
   (refine retK_of [0] ?_;push_cast [-List.reduceReplicate,iO,tN,hR])
  have hcJ:((j:Int)=(J:Int))=False:=eq_false (by omega)
  have hge:bsetGo p j cs=some (cs,j):=by rw [bsetGo,dif_neg (by omega),if_pos h93]
  rw [← h4,happ] at hge
  obtain ⟨r,hr1,hr2⟩:=Option.map_eq_some_iff.1 hge
  have hrl:r.1.length=127:=(bsetGo_gt hr1).2.2
  have hlow:=bsetGo_low hlo noneS_low hr1
  obtain ⟨hr3,hr4⟩:r.1++[false]=cs∧r.2=j:=by injection hr2 with a b;exact ⟨a,b⟩
  have hJn:¬ (p.size≤J∨byt p J=93):=by rintro (h|h);omega;exact h5 (by omega) h
  have hR:bsetM p i=some (if nq then notS r.1 else r.1,j+1):=by unfold bsetM;rw [hJ,if_neg hJn,hr1,hnq,← hr4]
  repeat' (first|((first|refine pC ?_|refine pQC ?_|refine pU ?_);push_cast [-List.reduceReplicate,iO,tN,hlt,g0,h93,hcJ])|(refine pif (fun h=>?_) (fun h=>?_)<;>first|exact pN h|push_cast [-List.reduceReplicate,iO,tN,hlt,g0,h93,hcJ]))
  have z2:elC (List.replicate 128 false)=elC (outN cs nq 0):=rfl
  rw [z2]
  (apply pwp_loop3 (α:=Nat) 13 [] (fun k=>[(12,.c (.v (.int .i64 (32+k))))]) (fun k=>[(0,.box 135 (elC (outN cs nq k)))]) (fun k=>k≤95) (fun k=>95 - k) (0);(focus ((try push_cast [-List.reduceReplicate,iO,tN]);rfl));(focus exact (by omega));(focus ((refine weak_fg ?_;try push_cast [-List.reduceReplicate,iO,tN]))))
  intro k hk
  push_cast [-List.reduceReplicate,iO,tN]
  have hlen:(outN cs nq k).length=128:=outN_len _ _ _
  by_cases hlt2:k < 95
  ·have hd1:=drop_bools cs (32+k) (by rw [h3];omega)
   obtain ⟨v,hv⟩:∃ v,(cs.getD (32+k) false != nq)=v:=⟨_,rfl⟩
   have hput:List.take (2+(32+k)) (E.v (.bool false) :: E.v (.bool false) :: (outN cs nq k).map boolE)++E.v (.bool v) :: List.drop (2+(32+k)) (E.v (.bool false) :: (outN cs nq k).map boolE)=elC (outN cs nq (k+1)):=by
    have h:=two_put (E.v (.bool false)) (E.v (.bool false)) ((outN cs nq k).map boolE) (32+k) (E.v (.bool v)) (by rw [List.length_map,hlen];omega)
    rw [List.drop_succ_cons] at h
    rw [h,outN,hv]
    show _=E.v (.bool false) :: E.v (.bool false) :: ((outN cs nq k).set (32+k) v).map boolE
    rw [List.map_set]
   repeat' (first|((refine pwp_cut 13 [] ?_;apply pwp_drawn_to;(focus kernel_rfl);(focus (simp only [List.length_cons,List.length_nil,Nat.reduceAdd];(repeat' first|((first|refine pah 0 ?_|refine pah 1 ?_|refine pah 2 ?_|refine pah 3 ?_|refine pah 5 ?_|refine pah 6 ?_|refine pah 7 ?_|refine pah 8 ?_|refine pah 9 ?_);push_cast [-List.reduceReplicate,iO,tN,hlen,hd1,hv,hput])|(refine pad ?_;first|with_reducible exact weak_cutS 13 [] _|(refine weak_fg ?_;push_cast [-List.reduceReplicate,iO,tN,hlen,hd1,hv,hput]))|((first|refine pas [4] ?_|refine pas [10] ?_);push_cast [-List.reduceReplicate,iO,tN,hlen,hd1,hv,hput]));done));push_cast [-List.reduceReplicate,iO,tN,hlen,hd1,hv,hput]))|((first|refine pC ?_|refine pQC ?_|refine pU ?_);push_cast [-List.reduceReplicate,iO,tN,hlen,hd1,hv,hput])|(refine pif (fun h=>?_) (fun h=>?_)<;>first|exact pN h|push_cast [-List.reduceReplicate,iO,tN,hlen,hd1,hv,hput]))
   have hk3:(32+(k:Int)+1)=32+((k:Int)+1):=by omega
   exact ⟨k+1,by omega,by (refine weak_fg ?_;push_cast [-List.reduceReplicate,iO,tN,hk3]),by omega⟩
  ·have hk2:k=95:=by omega
   have hout:outN cs nq k=(if nq then notS r.1 else r.1)++[false]:=by
    rw [← hr3,outN_not hrl hlow nq hk2]
    have hN:notN r.1 k=notS r.1:=by rw [hk2];rfl
    rw [hN]
   obtain ⟨ob,hob⟩:∃ ob,(if nq then notS r.1 else r.1)++[false]=ob:=⟨_,rfl⟩
   rw [hob] at hout
   obtain ⟨q1,hq1⟩:∃ q1,(if nq then notS r.1 else r.1)=q1:=⟨_,rfl⟩
   rw [hq1] at hR hob
   repeat' (first|((first|refine pC ?_|refine pQC ?_|refine pU ?_);push_cast [-List.reduceReplicate,iO,tN])|(refine pif (fun h=>?_) (fun h=>?_)<;>first|exact pN h|push_cast [-List.reduceReplicate,iO,tN]))
   (refine retK_of [0] ?_;push_cast [-List.reduceReplicate,iO,tN,hR,hout,hob])
 have h93n:¬ (byt p j).toNat=93:=fun e=>h93 (UInt8.toNat_inj.1 e)
 obtain ⟨A,hA⟩:∃ A,(byt p j).toNat=A:=⟨_,rfl⟩
 have hA1:A≤126:=by rw [← hA];exact UInt8.le_iff_toNat_le.1 (hb j)
 rw [hA] at h93n
 by_cases hl2:j+2 < p.size
 case neg =>
  have hq:rngQ p j=false:=by unfold rngQ;rw [decide_eq_false hl2];rfl
  have hl2:¬ (j:Int)+2 < (p.size:Int):=by omega
  have hmt:memTo p j=byt p j:=by unfold memTo;rw [hq];rfl
  have hma:memAt p j=j+1:=by unfold memAt;rw [hq];rfl
  have hms:memS p j cs=cs.set A true:=by unfold memS;rw [hmt,hA,show A+1 - A=1 by omega];rfl
  have hst:bsetGo p j cs=bsetGo p (j+1) (cs.set A true):=by rw [bsetGo,dif_neg (by omega),if_neg h93,if_pos (by rw [hmt];exact Nat.le_refl _),hma,hms]
  repeat' (first|((first|refine pC ?_|refine pQC ?_|refine pU ?_);push_cast [-List.reduceReplicate,iO,tN,hlt,h93,h93n,g0,h3,hA,hl2])|(refine pif (fun h=>?_) (fun h=>?_)<;>first|exact pN h|push_cast [-List.reduceReplicate,iO,tN,hlt,h93,h93n,g0,h3,hA,hl2]))
  obtain ⟨cs2,hcs2⟩:∃ cs2,cs.set A true=cs2:=⟨_,rfl⟩
  have hc2l:cs2.length=128:=by rw [← hcs2,List.length_set,h3]
  have hc2:(List.map boolE cs).set A (.v (.bool true))=List.map boolE cs2:=by rw [← hcs2,List.map_set]
  rw [hcs2] at hst
  exact ⟨(j+1,cs2),⟨by simp only;omega,by simp only;omega,hc2l,by simp only;rw [h4,hst],fun _=>by by_cases e:j=J;exact e ▸ h93;exact h5 (by omega)⟩,by (refine weak_fg ?_;push_cast [-List.reduceReplicate,iO,tN,hc2]),by simp only;omega⟩
 by_cases h45:byt p (j+1)=45
 case neg =>
  have hq:rngQ p j=false:=by unfold rngQ;rw [beq_eq_false_iff_ne.2 h45];simp
  have h45n:¬ (byt p (j+1)).toNat=45:=fun e=>h45 (UInt8.toNat_inj.1 e)
  have hmt:memTo p j=byt p j:=by unfold memTo;rw [hq];rfl
  have hma:memAt p j=j+1:=by unfold memAt;rw [hq];rfl
  have hms:memS p j cs=cs.set A true:=by unfold memS;rw [hmt,hA,show A+1 - A=1 by omega];rfl
  have hst:bsetGo p j cs=bsetGo p (j+1) (cs.set A true):=by rw [bsetGo,dif_neg (by omega),if_neg h93,if_pos (by rw [hmt];exact Nat.le_refl _),hma,hms]
  repeat' (first|((first|refine pC ?_|refine pQC ?_|refine pU ?_);push_cast [-List.reduceReplicate,iO,tN,hlt,h93,h93n,g0,h3,hA,hl2,g1,h45,h45n])|(refine pif (fun h=>?_) (fun h=>?_)<;>first|exact pN h|push_cast [-List.reduceReplicate,iO,tN,hlt,h93,h93n,g0,h3,hA,hl2,g1,h45,h45n]))
  obtain ⟨cs2,hcs2⟩:∃ cs2,cs.set A true=cs2:=⟨_,rfl⟩
  have hc2l:cs2.length=128:=by rw [← hcs2,List.length_set,h3]
  have hc2:(List.map boolE cs).set A (.v (.bool true))=List.map boolE cs2:=by rw [← hcs2,List.map_set]
  rw [hcs2] at hst
  exact ⟨(j+1,cs2),⟨by simp only;omega,by simp only;omega,hc2l,by simp only;rw [h4,hst],fun _=>by by_cases e:j=J;exact e ▸ h93;exact h5 (by omega)⟩,by (refine weak_fg ?_;push_cast [-List.reduceReplicate,iO,tN,hc2]),by simp only;omega⟩
 by_cases hb93:byt p (j+2)=93
 case pos =>
  have hq:rngQ p j=false:=by unfold rngQ;rw [hb93];simp
  have hmt:memTo p j=byt p j:=by unfold memTo;rw [hq];rfl
  have hma:memAt p j=j+1:=by unfold memAt;rw [hq];rfl
  have hms:memS p j cs=cs.set A true:=by unfold memS;rw [hmt,hA,show A+1 - A=1 by omega];rfl
  have hst:bsetGo p j cs=bsetGo p (j+1) (cs.set A true):=by rw [bsetGo,dif_neg (by omega),if_neg h93,if_pos (by rw [hmt];exact Nat.le_refl _),hma,hms]
  repeat' (first|((first|refine pC ?_|refine pQC ?_|refine pU ?_);push_cast [-List.reduceReplicate,iO,tN,hlt,h93,h93n,g0,h3,hA,hl2,g1,h45,g2,hb93])|(refine pif (fun h=>?_) (fun h=>?_)<;>first|exact pN h|push_cast [-List.reduceReplicate,iO,tN,hlt,h93,h93n,g0,h3,hA,hl2,g1,h45,g2,hb93]))
  obtain ⟨cs2,hcs2⟩:∃ cs2,cs.set A true=cs2:=⟨_,rfl⟩
  have hc2l:cs2.length=128:=by rw [← hcs2,List.length_set,h3]
  have hc2:(List.map boolE cs).set A (.v (.bool true))=List.map boolE cs2:=by rw [← hcs2,List.map_set]
  rw [hcs2] at hst
  exact ⟨(j+1,cs2),⟨by simp only;omega,by simp only;omega,hc2l,by simp only;rw [h4,hst],fun _=>by by_cases e:j=J;exact e ▸ h93;exact h5 (by omega)⟩,by (refine weak_fg ?_;push_cast [-List.reduceReplicate,iO,tN,hc2]),by simp only;omega⟩
 have hq:rngQ p j=true:=by unfold rngQ;rw [h45,decide_eq_true hl2];simp [hb93]
 have hma:memAt p j=j+3:=by unfold memAt;rw [hq];rfl
 have hmt:memTo p j=byt p (j+2):=by unfold memTo;rw [hq];rfl
 have hb93n:¬ (byt p (j+2)).toNat=93:=fun e=>hb93 (UInt8.toNat_inj.1 e)
 obtain ⟨T,hT⟩:∃ T,(byt p (j+2)).toNat=T:=⟨_,rfl⟩
 have hT1:T≤126:=by rw [← hT];exact UInt8.le_iff_toNat_le.1 (hb _)
 rw [hT] at hb93n
 by_cases hAT:A≤T
 case neg =>
  have hR:=hnone (by rw [bsetGo,dif_neg (by omega),if_neg h93,if_neg (by rw [hmt,UInt8.le_iff_toNat_le,hA,hT];exact hAT)])
  repeat' (first|((first|refine pC ?_|refine pQC ?_|refine pU ?_);push_cast [-List.reduceReplicate,iO,tN,hlt,h93,h93n,g0,h3,hA,hl2,g1,h45,g2,hb93,hb93n,hT])|(refine pif (fun h=>?_) (fun h=>?_)<;>first|exact pN h|push_cast [-List.reduceReplicate,iO,tN,hlt,h93,h93n,g0,h3,hA,hl2,g1,h45,g2,hb93,hb93n,hT]))
  (refine retK_of [0] ?_;push_cast [-List.reduceReplicate,iO,tN,hR])
 have hms:memS p j cs=fillN cs A (T+1 - A):=by unfold memS;rw [hmt,hA,hT]
 have hst:bsetGo p j cs=bsetGo p (j+3) (fillN cs A (T+1 - A)):=by rw [bsetGo,dif_neg (by omega),if_neg h93,if_pos (by rw [hmt,UInt8.le_iff_toNat_le,hA,hT];exact hAT),hma,hms]
 repeat' (first|((first|refine pC ?_|refine pQC ?_|refine pU ?_);push_cast [-List.reduceReplicate,iO,tN,hlt,h93,h93n,g0,h3,hA,hl2,g1,h45,g2,hb93,hb93n,hT])|(refine pif (fun h=>?_) (fun h=>?_)<;>first|exact pN h|push_cast [-List.reduceReplicate,iO,tN,hlt,h93,h93n,g0,h3,hA,hl2,g1,h45,g2,hb93,hb93n,hT]))
 (apply pwp_loop3 (α:=Nat) 13 [] (fun k=>[(11,.c (.v (.int .i64 ((A+k:Nat):Int))))]) (fun k=>[(1,.box 133 ((fillN cs A k).map boolE))]) (fun k=>k≤T+1 - A) (fun k=>(T+1 - A) - k) (0);(focus ((try push_cast [-List.reduceReplicate,iO,tN]);rfl));(focus exact (by omega));(focus ((refine weak_fg ?_;try push_cast [-List.reduceReplicate,iO,tN]);(try (exact leEs_refl _)))))
 intro k hk
 push_cast [-List.reduceReplicate,iO,tN]
 have hlen:(fillN cs A k).length=128:=by rw [fillN_len,h3]
 by_cases hlt2:k < T+1 - A
 ·have hc:(A:Int)+(k:Int)≤(T:Int):=by omega
  have hs2:(List.map boolE (fillN cs A k)).set (A+k) (.v (.bool true))=(fillN cs A (k+1)).map boolE:=by rw [fillN,List.map_set]
  have hk3:((A:Int)+(k:Int)+1)=(A:Int)+((k:Int)+1):=by omega
  repeat' (first|((first|refine pC ?_|refine pQC ?_|refine pU ?_);push_cast [-List.reduceReplicate,iO,tN,hlen,hc,g2,hT,hl2])|(refine pif (fun h=>?_) (fun h=>?_)<;>first|exact pN h|push_cast [-List.reduceReplicate,iO,tN,hlen,hc,g2,hT,hl2]))
  exact ⟨k+1,by omega,by (refine weak_fg ?_;push_cast [-List.reduceReplicate,iO,tN,hs2,hk3]),by omega⟩
 ·have hk2:k=T+1 - A:=by omega
  have hc:¬ (A:Int)+(k:Int)≤(T:Int):=by omega
  repeat' (first|((first|refine pC ?_|refine pQC ?_|refine pU ?_);push_cast [-List.reduceReplicate,iO,tN,hlen,hc,g2,hT,hl2])|(refine pif (fun h=>?_) (fun h=>?_)<;>first|exact pN h|push_cast [-List.reduceReplicate,iO,tN,hlen,hc,g2,hT,hl2]))
  subst hk2
  exact ⟨(j+3,fillN cs A (T+1 - A)),⟨by simp only;omega,by simp only;omega,by simp only;rw [fillN_len,h3],by simp only;rw [h4,hst],fun _=>by by_cases e:j=J;exact e ▸ h93;exact h5 (by omega)⟩,by (refine weak_fg ?_;push_cast [-List.reduceReplicate,iO,tN]);omega,by simp only;omega⟩
end Go.Proofs.YthhfpcbpiphfiaaGreatDoor
