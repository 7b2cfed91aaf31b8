/- What the program computes, and the plain laws of it, part 8. -/
import Derived.Scope
import Derived.TacticsIn
import Derived.OrdersIn
import Derived.Sort.QuietThIn
import Derived.Sort.LoopGhostIn
import Derived.RangeFuncRecord
import Derived.Deep.LoopGhost
import Derived.Deep.Quiet
import Derived.Test.YtmbbkfffcflfcaaGreatDoorT7
namespace Go.Proofs.YtmbbkfffcflfcaaGreatDoor
set_option linter.unusedSimpArgs false
set_option linter.unusedVariables false
open Go.RowKit
open IntWalk renaming iteOmega → O, toNatUp → U
inductive Res where
 | val (q:PV)
 | heap (q:PV) (os:List Ob)
 | app (q:PV) (os:List Ob) (kk:Option Nat)
 | stop
def Res.ofV:Option PV → Res
 | some q=>.val q
 | none=>.stop
def Res.ofH:Option (PV × List Ob) → Res
 | some (q,os)=>.heap q os
 | none=>.stop
def Res.ofA:Option (PV × List Ob × Option Nat) → Res
 | some (q,os,kk)=>.app q os kk
 | none=>.stop
def Res.lit (os:List Ob):Option PV → Res
 | some q=>.heap q os
 | none=>.stop
def qG (P:Program) (p:Nat) (os:List Ob) (t:TypeId) (x y:Option PV):Res:=match uD P os t x y with
 | some (q,os')=>.heap q os'
 | none=>.ofA (vZ P p os t x y)
def run1 (P:Program) (p:Nat) (s:S):Op → Res
 | .move x=>.ofV (s.ev x)
 | .assign x=>.ofV (s.ev x)
 | .pick c x y=>.ofV (oZ (s.ev c) (s.ev x) (s.ev y))
 | .build t parts=>.ofV (qA P t (parts.toList.map fun x=>(x.1,s.ev x.2)))
 | .load t x=>.ofV (iO P s.o t (s.ev x))
 | .nilCheck x=>.ofV (x4 (s.ev x))
 | .binOp op t x y _=>.ofV (x5 P op t (s.ev x) (s.ev y))
 | .unOp op _ x=>.ofV (unP op (s.ev x))
 | .convert src dst x=>.ofV (vV P src dst (s.ev x))
 | .makeFunc f first cap=>.ofV (Dy f (first.toList.map s.ev) (cap.toList.map s.ev))
 | .slice t x lo hi mx=>.ofV (Dx P s.o t (s.ev x) (lo.map s.ev) (hi.map s.ev) (mx.map s.ev))
 | .fieldAddr t x f=>.ofV (faP P t f (s.ev x))
 | .field t x f=>.ofV (fdP P t f (s.ev x))
 | .indexAddr t x i=>.ofV (ixP P t (s.ev x) (s.ev i))
 | .index t x i=>.ofV (vQ P t (s.ev x) (s.ev i))
 | .extract x i=>.ofV (exP i (s.ev x))
 | .lookup t x i ok=>.ofV (mN P s.o t ok (s.ev x) (s.ev i))
 | .makeMap t none=>.ofH (oc P s.o t)
 | .mapUpdate t m k x=>.ofH (AY P s.o t (s.ev m) (s.ev k) (s.ev x))
 | .alloc t=>.ofH (AX s.o t (zerOf P t))
 | .box t x=>.ofH (AX s.o t (eX (s.ev x)))
 | .store t ad x=>.ofH (l6 P s.o t (s.ev ad) (eX (s.ev x)))
 | .buildSlice t len parts=>.lit s.o (GA P t len (parts.toList.map fun x=>(x.1,s.ev x.2)))
 | .call ⟨.builtin .len,⟨[x]⟩,⟨[t]⟩⟩=>.ofV (Dv P t (s.ev x))
 | .call ⟨.builtin .max,⟨l⟩,_⟩=>.ofV (mxP true (l.map s.ev))
 | .call ⟨.builtin .min,⟨l⟩,_⟩=>.ofV (mxP false (l.map s.ev))
 | .call ⟨.builtin .append,⟨[x,y]⟩,⟨[t,t']⟩⟩=>if t'=t then qG P p s.o t (s.ev x) (s.ev y) else .stop
 | .call ⟨.builtin .clear,⟨[x]⟩,⟨[t]⟩⟩=>.ofH (od P s.o t (s.ev x))
 | .call ⟨.builtin .delete,⟨[m,k]⟩,⟨[t,_]⟩⟩=>.ofH (A4 P s.o t (s.ev m) (s.ev k))
 | _=>.stop
theorem Ac {os os':List Ob} {t:TypeId} {cs:Option (List E)} {q:PV} (h:AX os t cs=some (q,os')):os.length≤os'.length:=by
 obtain ⟨z,_,he⟩:=Option.map_eq_some_iff.1 h;cases he;simp
theorem A5 {P:Program} {os os':List Ob} {t:TypeId} {x:Option PV} {cs:Option (List E)} {q:PV} (h:l6 P os t x cs=some (q,os')):os.length≤os'.length:=by
 unfold l6 at h;split at h
 ·split at h
  ·split at h<;>cases h;simp [dw]
  ·cases h
 ·split at h
  ·split at h<;>cases h;simp [dw]
  ·split at h<;>cases h;simp [dw]
  ·cases h
 ·cases h
theorem GE {P:Program} {p:Nat} {os os':List Ob} {t:TypeId} {x y:Option PV} {q:PV} {kk:Option Nat} (h:vZ P p os t x y=some (q,os',kk)):os.length≤os'.length:=by
 unfold vZ at h;split at h
 ·split at h
  ·split at h
   ·split at h
    ·split at h<;>cases h;simp
    ·split at h<;>cases h;simp
    ·split at h
     ·split at h<;>cases h;simp [dw,cI]
     ·cases h
    ·cases h
   ·cases h
  ·cases h
 ·cases h
theorem GF {x:Option PV} {q:PV} (h:Res.ofV x = .val q):x=some q:=by
 cases x with
 | none=>cases h
 | some r=>injection h with h;rw [h]
theorem DN {x:Option PV} {q:PV} {os:List Ob} (h:Res.ofV x = .heap q os):False:=by cases x<;>cases h
theorem GG {x:Option PV} {q:PV} {os:List Ob} {kk:Option Nat} (h:Res.ofV x = .app q os kk):False:=by cases x<;>cases h
theorem GH {x:Option (PV × List Ob)} {q:PV} (h:Res.ofH x = .val q):False:=by cases x<;>cases h
theorem gK {x:Option (PV × List Ob)} {q:PV} {os:List Ob} (h:Res.ofH x = .heap q os):x=some (q,os):=by cases x<;>cases h;rfl
theorem GI {x:Option (PV × List Ob)} {q:PV} {os:List Ob} {kk:Option Nat} (h:Res.ofH x = .app q os kk):False:=by cases x<;>cases h
theorem GK {x:Option PV} {q:PV} {os:List Ob} (h:Res.lit os x = .val q):False:=by cases x<;>cases h
theorem DO {x:Option PV} {q:PV} {os os':List Ob} (h:Res.lit os x = .heap q os'):x=some q∧os'=os:=by cases x<;>cases h;exact ⟨rfl,rfl⟩
theorem GL {x:Option PV} {q:PV} {os os':List Ob} {kk:Option Nat} (h:Res.lit os x = .app q os' kk):False:=by cases x<;>cases h
theorem GM {x:Option (PV × List Ob × Option Nat)} {q:PV} (h:Res.ofA x = .val q):False:=by cases x<;>cases h
theorem DR {x:Option (PV × List Ob × Option Nat)} {q:PV} {os:List Ob} (h:Res.ofA x = .heap q os):False:=by cases x<;>cases h
theorem GN {x:Option (PV × List Ob × Option Nat)} {q:PV} {os:List Ob} {kk:Option Nat} (h:Res.ofA x = .app q os kk):x=some (q,os,kk):=by cases x<;>cases h;rfl
theorem GO {P:Program} {os os':List Ob} {t:TypeId} {x y:Option PV} {q:PV} (h:uD P os t x y=some (q,os')):os.length≤os'.length:=by
 unfold uD at h;split at h
 ·split at h
  ·split at h<;>cases h;simp [dw]
  ·cases h
 ·cases h
theorem A6 {P:Program} {os os':List Ob} {t:TypeId} {x:Option PV} {q:PV} (h:od P os t x=some (q,os')):os.length≤os'.length:=by
 unfold od at h;split at h
 ·split at h
  ·split at h
   ·split at h<;>cases h;simp [dw]
   ·cases h
  ·cases h
 ·cases h
theorem DT {P:Program} {p:Nat} {os:List Ob} {t:TypeId} {x y:Option PV} {q:PV} (h:qG P p os t x y = .val q):False:=by
 unfold qG at h;split at h
 ·cases h
 ·exact GM h
theorem A7 {P:Program} {p:Nat} {os os':List Ob} {t:TypeId} {x y:Option PV} {q:PV} (h:qG P p os t x y = .heap q os'):uD P os t x y=some (q,os'):=by
 unfold qG at h;split at h
 ·rename_i e;cases h;exact e
 ·exact (DR h).elim
theorem DU {P:Program} {p:Nat} {os os':List Ob} {t:TypeId} {x y:Option PV} {q:PV} {kk:Option Nat} (h:qG P p os t x y = .app q os' kk):vZ P p os t x y=some (q,os',kk):=by
 unfold qG at h;split at h
 ·cases h
 ·exact GN h
theorem kC {P:Program} {p:Nat} {s:S} {op:Op} {q:PV} (h:run1 P p s op = .val q):yd P s op=some q:=by
 unfold run1 at h;split at h<;>first
  | exact GF h
  | exact (GH h).elim
  | exact (GK h).elim
  | (split at h<;>first|exact (DT h).elim|(cases h;done))
  | cases h
theorem A8 {P:Program} {N p:Nat} {s:S} {o:Oper} {q:PV} {os:List Ob} (h:run1 P p s o.op = .heap q os):(∀ Γ a w,Inv N Γ s a w → p≤Γ.n → eo P N p Γ s a w o q os)∧s.o.length≤os.length:=by
 obtain ⟨op,hop⟩:∃ op,op=o.op:=⟨_,rfl⟩
 rw [← hop] at h;unfold run1 at h;split at h<;>first
  | exact (DN h).elim
  | (have e:=gK h;exact ⟨fun Γ a w hI hp=>DG hop.symm e hI hp,Ac e⟩)
  | (have e:=gK h;exact ⟨fun Γ a w hI hp=>II hop.symm e hI hp,Ac e⟩)
  | (have e:=gK h;exact ⟨fun Γ a w hI hp=>DI hop.symm e hI,A5 e⟩)
  | (have e:=gK h;exact ⟨fun Γ a w hI hp=>DJ hop.symm e hI hp,AZ e⟩)
  | (have e:=gK h;exact ⟨fun Γ a w hI hp=>IJ hop.symm e hI,Gy e⟩)
  | (obtain ⟨e,rfl⟩:=DO h;exact ⟨fun Γ a w hI hp=>IL hop.symm e hI,Nat.le_refl _⟩)
  | (have e:=gK h;exact ⟨fun Γ a w hI hp=>DL hop.symm e hI,A6 e⟩)
  | (have e:=gK h;exact ⟨fun Γ a w hI hp=>IK hop.symm e hI,Gz e⟩)
  | (split at h<;>first|(rename_i e1;subst e1;have e:=A7 h;exact ⟨fun Γ a w hI hp=>IN hop.symm e hI,GO e⟩)|(cases h;done))
  | cases h
theorem DV {P:Program} {N p:Nat} {s:S} {o:Oper} {q:PV} {os:List Ob} {kk:Option Nat} (h:run1 P p s o.op = .app q os kk):(∀ Γ a w,Inv N Γ s a w → p≤Γ.n → lP P N p Γ s a w o q os kk)∧s.o.length≤os.length:=by
 obtain ⟨op,hop⟩:∃ op,op=o.op:=⟨_,rfl⟩
 rw [← hop] at h;unfold run1 at h;split at h<;>first
  | exact (GG h).elim
  | exact (GI h).elim
  | exact (GL h).elim
  | (split at h<;>first|(rename_i e1;subst e1;have e:=DU h;exact ⟨fun Γ a w hI hp=>IM hop.symm e hI hp,GE e⟩)|(cases h;done))
  | cases h
structure dl (N p:Nat) (Γ:G) (s:S) (a:Act) (w:World):Prop where
 inv:Inv N Γ s a w
 le:p≤Γ.n
def Fw (rd:Option Nat):Fence:={ Fence.wide with round:=rd }
theorem uE {rd:Option Nat} {n:Nat}:(Fw rd).depth.isSome=true → 1≤n:=fun h=>by simp [Fw,Fence.wide] at h
theorem qH {rd:Option Nat} {n:Nat} {P:Program} {f:FuncId} {args:Array Value} {w:World} {R:Ending → World → Prop} (h:Calls P f args w R):CallsIn (Fw rd) n P f args w R:=callsIn_wide (n:=n).2 h
theorem v6 {rd:Option Nat} {n:Nat} {P:Program} {f:FuncId} {args:Array Value} {w:World} {R:Ending → World → Prop} (h:CallsIn (Fw rd) n P f args w R):Calls P f args w R:=callsIn_wide (n:=n).1 h
theorem eP {P:Program} {o:Oper} {a:Act} {w:World} {K:Act → World → Prop} {Q:Exit → Act → World → Prop} {r:Result Next} (h:(execOp a.eval o).run P w=r) (hu:o.uponIn (Fw none) 0 P a K Q r):o.wpIn (Fw none) 0 P a w K Q :=
 ⟨fun _ _=>trivial,by subst h;exact hu⟩
theorem l7 {P:Program} {o:Oper} {a:Act} {w w':World} {K:Act → World → Prop} {Q:Exit → Act → World → Prop} {f:FuncId} {args:Array Value} (h:(execOp a.eval o).run P w = .ok (.enter f args) w')
  (hc:Calls P f args w' fun e w''=>∃ v,e = .returned v∧K (a.put o.dst v) w''):o.wpIn (Fw none) 0 P a w K Q :=
 eP h ⟨uE,qH (hc.mono fun e w'' ⟨v,he,hk⟩=>by subst he;exact hk)⟩
theorem bK (a:Act) (d:Option Nat) (v:Value):(a.put d v).defers=a.defers:=by cases d<;>rfl
def PL (P:Program) (N p:Nat) (ops:Array Oper) (l:List Oper) (s:S) (K:S → Prop):Prop :=
 ∀ (Γ:G) (a:Act) (w:World) (Q:Exit → Act → World → Prop),dl N p Γ s a w → (∀ s' Γ' a' w',K s' → dl N p Γ' s' a' w' → cq p Γ w Γ' w' → a'.defers=a.defers → Q .normal a' w') → wpListIn (Fw none) 0 P ops Q l a w
def gd (ops:Array Oper) (s:S):Option (Nat × Bool) → Option Bool
 | none=>some true
 | some (j,b)=>match (ops[j]?).bind (·.dst) with
  | some d=>match s.get d with
   | some (.c (.v (.bool c)))=>some (c == b)
   | some .undef=>some false
   | _=>none
  | none=>none
theorem fG {ops:Array Oper} {N:Nat} {Γ:G} {s:S} {a:Act} {w:World} {o:Oper} {r:Bool} (h:gd ops s o.guard=some r) (hI:Inv N Γ s a w):Region.wanted o (yielded ops a.tmps)=r:=by
 unfold gd at h;split at h
 ·rename_i e;cases h;simp [Region.wanted,e]
 ·rename_i j b e;split at h
  ·rename_i d hd;split at h
   ·rename_i c hc;cases h;obtain ⟨h1,h2⟩:=hI.t d _ hc;have h3:a.tmps[d]? = some (.bool c):=by
     have:d < a.tmps.size:=by rw [hI.size];exact h1
     rw [Array.getElem?_eq_getElem this];have:=h2.1;simp only [Array.getD_eq_getD_getElem?,Array.getElem?_eq_getElem ‹d < a.tmps.size›,Option.getD_some] at this;rw [this]
    simp only [Region.wanted,e,yielded,hd,Option.bind_some,h3];cases c<;>cases b<;>rfl
   ·rename_i hc;cases h;obtain ⟨h1,h2⟩:=hI.t d _ hc;have h3:a.tmps[d]? = some Go.undef:=by
     have:d < a.tmps.size:=by rw [hI.size];exact h1
     rw [Array.getElem?_eq_getElem this];simp only [RP,Array.getD_eq_getD_getElem?,Array.getElem?_eq_getElem ‹d < a.tmps.size›,Option.getD_some] at h2;rw [h2]
    simp only [Region.wanted,e,yielded,hd,Option.bind_some,h3,Go.undef];rfl
   ·cases h
  ·cases h
def bp (N:Nat):Option Nat → Prop
 | none=>True
 | some d=>d < N
theorem ec {N:Nat} {dst:Option Nat} (h:bp N dst):∀ d,dst=some d → d < N:=by rintro d rfl;exact h
def s6 (kk:Option Nat) (s:S):S:=match kk with
 | none=>s
 | some k=>⟨jX k s.t,s.o⟩
mutual
def fY (P:Program) (N p:Nat) (ops:Array Oper):List Oper → S → (S → Prop) → Prop
 | [],s,K=>K s
 | o :: rest,s,K=>match gd ops s o.guard,run1 P p s o.op with
  | some true,.val q=>bp N o.dst∧fY P N p ops rest (s.put o.dst q) K
  | some true,.heap q os=>bp N o.dst∧fY P N p ops rest (S.put ⟨s.t,os⟩ o.dst q) K
  | some true,.app q os kk=>bp N o.dst∧fY P N p ops rest (S.put (s6 kk ⟨s.t,os⟩) o.dst q) K
  | some false,_=>bp N o.dst∧fY P N p ops rest (s.put o.dst .undef) K
  | _,_=>PL P N p ops (o :: rest) s K
end
def pgo (P:Program) (N p:Nat) (ops:Array Oper) (rest:List Oper) (K:S → Prop) (o:Oper) (s:S):Option Bool → Res → Prop
 | some true,.val q=>bp N o.dst∧fY P N p ops rest (s.put o.dst q) K
 | some true,.heap q os=>bp N o.dst∧fY P N p ops rest (S.put ⟨s.t,os⟩ o.dst q) K
 | some true,.app q os kk=>bp N o.dst∧fY P N p ops rest (S.put (s6 kk ⟨s.t,os⟩) o.dst q) K
 | some false,_=>bp N o.dst∧fY P N p ops rest (s.put o.dst .undef) K
 | some true,.stop=>PL P N p ops (o :: rest) s K
 | none,_=>PL P N p ops (o :: rest) s K
theorem v7 (P:Program) (N p:Nat) (ops:Array Oper) (s:S) (K:S → Prop):fY P N p ops [] s K=K s:=by rw [fY]
theorem s7 (P:Program) (N p:Nat) (ops:Array Oper) (o:Oper) (rest:List Oper) (s:S) (K:S → Prop):fY P N p ops (o :: rest) s K=pgo P N p ops rest K o s (gd ops s o.guard) (run1 P p s o.op):=by
 rw [fY];generalize gd ops s o.guard=g;generalize run1 P p s o.op=r;cases g with
 | none=>cases r<;>rfl
 | some b=>cases b<;>cases r<;>rfl
section
variable {P:Program} {N p:Nat} {ops:Array Oper} {rest:List Oper} {o:Oper} {s:S} {K:S → Prop}
theorem yg {q:PV} (hg:gd ops s o.guard=some true) (h:yd P s o.op=some q) (hd:bp N o.dst) (hr:PL P N p ops rest (s.put o.dst q) K):PL P N p ops (o :: rest) s K:=by
 intro Γ a w Q hA hK;obtain ⟨y,h1,h2⟩:=uB h hA.inv;unfold wpListIn;rw [if_pos (fG hg hA.inv)];exact eP (h2 w (bS.refl w)) (hr Γ _ w Q ⟨hA.inv.put (ec hd) h1,hA.le⟩ fun s' Γ'' a' w'' hk ha hg' hd'=>hK s' Γ'' a' w'' hk ha hg' (hd'.trans (bK _ _ _)))
theorem GP (hg:gd ops s o.guard=some false) (hd:bp N o.dst) (hr:PL P N p ops rest (s.put o.dst .undef) K):PL P N p ops (o :: rest) s K:=by
 intro Γ a w Q hA hK;unfold wpListIn;rw [if_neg (by rw [fG hg hA.inv];simp)];exact ⟨fun _ _=>trivial,hr Γ _ w Q ⟨hA.inv.put (ec hd) rfl,hA.le⟩ fun s' Γ'' a' w'' hk ha hg' hd'=>hK s' Γ'' a' w'' hk ha hg' (hd'.trans (bK _ _ _))⟩
theorem mP {q:PV} {os:List Ob} (hg:gd ops s o.guard=some true) (h:∀ Γ a w,dl N p Γ s a w → eo P N p Γ s a w o q os) (hl:s.o.length≤os.length) (hd:bp N o.dst) (hr:PL P N p ops rest (S.put ⟨s.t,os⟩ o.dst q) K):PL P N p ops (o :: rest) s K:=by
 intro Γ a w Q hA hK;obtain ⟨y,w',Γ',h1,h2,h3,h4⟩:=h Γ a w hA;unfold wpListIn;rw [if_pos (fG hg hA.inv)];have hle:p≤Γ'.n:=by have h5:=hA.le;rw [hA.inv.m.n] at h5;rw [h3.m.n];exact Nat.le_trans h5 hl
 have fin:wpListIn (Fw none) 0 P ops Q rest (a.put o.dst y) w':=hr Γ' _ w' Q ⟨h3.put (ec hd) h2,hle⟩ fun s' Γ'' a' w'' hk ha hg' hd'=>hK s' Γ'' a' w'' hk ha (h4.trans hg') (hd'.trans (bK _ _ _))
 rcases h1 with h1|⟨h1,rfl⟩
 ·exact eP h1 fin
 ·exact eP h1 fin
theorem IP {q:PV} {os:List Ob} {kk:Option Nat} (hg:gd ops s o.guard=some true) (h:∀ Γ a w,dl N p Γ s a w → lP P N p Γ s a w o q os kk) (hl:s.o.length≤os.length) (hd:bp N o.dst) (hr:PL P N p ops rest (S.put (s6 kk ⟨s.t,os⟩) o.dst q) K):PL P N p ops (o :: rest) s K:=by
 intro Γ a w Q hA hK;obtain ⟨y,w',Γ',h1,h2,h3,h4⟩:=h Γ a w hA;unfold wpListIn;rw [if_pos (fG hg hA.inv)];have hle:p≤Γ'.n:=by have h5:=hA.le;rw [hA.inv.m.n] at h5;rw [h3.m.n];exact Nat.le_trans h5 hl
 have h3':Inv N Γ' (s6 kk ⟨s.t,os⟩) a w':=by cases kk<;>exact h3
 exact eP h1 (hr Γ' _ w' Q ⟨h3'.put (ec hd) h2,hle⟩ fun s' Γ'' a' w'' hk ha hg' hd'=>hK s' Γ'' a' w'' hk ha (h4.trans hg') (hd'.trans (bK _ _ _)))
end
theorem an {P:Program} {N p:Nat} {ops:Array Oper}:∀ {l:List Oper} {s:S} {K:S → Prop},fY P N p ops l s K → PL P N p ops l s K
 | [],s,K,h=>by
  intro Γ a w Q hA hK;rw [v7] at h;exact hK s Γ a w h hA (cq.refl _ _ _) rfl
 | o :: rest,s,K,h=>by
  rw [s7] at h;cases hg:gd ops s o.guard with
  | none=>rw [hg] at h;unfold pgo at h;exact h
  | some b =>
   cases b with
   | false=>rw [hg] at h;unfold pgo at h;exact GP hg h.1 (an h.2)
   | true =>
    cases hr:run1 P p s o.op with
    | val q=>rw [hg,hr] at h;unfold pgo at h;exact yg hg (kC hr) h.1 (an h.2)
    | stop=>rw [hg,hr] at h;unfold pgo at h;exact h
    | heap q os =>
     rw [hg,hr] at h;unfold pgo at h;have key:=A8 (N:=N) hr;exact mP hg (fun Γ a w hA=>key.1 Γ a w hA.inv hA.le) key.2 h.1 (an h.2)
    | app q os kk =>
     rw [hg,hr] at h;unfold pgo at h;have key:=DV (N:=N) hr;exact IP hg (fun Γ a w hA=>key.1 Γ a w hA.inv hA.le) key.2 h.1 (an h.2)
def bg (N p:Nat) (s s':S):Prop:=∀ Γ a w,dl N p Γ s a w → ∃ Γ',dl N p Γ' s' a w∧cq p Γ w Γ' w
theorem bg.refl (N p:Nat) (s:S):bg N p s s:=fun Γ a w h=>⟨Γ,h,cq.refl _ _ _⟩
theorem bg.trans {N p:Nat} {s s' s'':S} (h:bg N p s s') (h':bg N p s' s''):bg N p s s'':=fun Γ a w hA=>by
 obtain ⟨Γ1,h1,g1⟩:=h Γ a w hA;obtain ⟨Γ2,h2,g2⟩:=h' Γ1 a w h1;exact ⟨Γ2,h2,g1.trans g2⟩
theorem bX {P:Program} {N p:Nat} {ops:Array Oper} {l:List Oper} {s s':S} {K:S → Prop} (hw:bg N p s s') (h:PL P N p ops l s' K):PL P N p ops l s K:=fun Γ a w Q hA hK=>by
 obtain ⟨Γ1,h1,g1⟩:=hw Γ a w hA;exact h Γ1 a w Q h1 fun s2 Γ2 a2 w2 hk hA2 hg hd=>hK s2 Γ2 a2 w2 hk hA2 (g1.trans hg) hd
def qI:Value → Bool
 | .slice _ 0 _=>true
 | _=>false
theorem v8 {x:Value} (h:qI x=true):∃ A c,x = .slice A 0 c:=by
 unfold qI at h;split at h
 ·exact ⟨_,_,rfl⟩
 ·cases h
def leE:E → E → Prop
 | .v x,.v y=>x=y
 | .v x,.sl _ l=>qI x=true∧l=[]
 | .full sz l,.sl sz' l'=>sz=sz'∧l=l'
 | .full sz l,.full sz' l'=>sz=sz'∧l=l'
 | .sl sz l,.sl sz' l'=>sz=sz'∧l=l'
 | .own k n,.own k' n'=>k=k'∧n=n'
 | .ptr k f,.ptr k' f'=>k=k'∧f=f'
 | .row cs,.row cs'=>cs=cs'
 | .orow k sz i f,.orow k' sz' i' f'=>k=k'∧sz=sz'∧i=i'∧f=f'
 | .fn f ds ks,.fn f' ds' ks'=>f=f'∧ds=ds'∧ks=ks'
 | .mp k,.mp k'=>k=k'
 | .seg k sz lo n,.seg k' sz' lo' n'=>k=k'∧sz=sz'∧lo=lo'∧n=n'
 | _,.any=>True
 | _,_=>False
def wd:List E → List E → Prop
 | [],[]=>True
 | a :: l,b :: m=>leE a b∧wd l m
 | _,_=>False
def leP:PV → PV → Prop
 | .c e,.c e'=>leE e e'
 | .agg cs,.agg ds=>wd cs ds
 | .undef,.undef=>True
 | .two a b,.two a' b'=>leP a a'∧leP b b'
 | .three a b c,.three a' b' c'=>leP a a'∧leP b b'∧leP c c'
 | _,_=>False
def A9:List PV → List PV → Prop
 | [],[]=>True
 | a :: l,b :: m=>leP a b∧A9 l m
 | _,_=>False
def leO:Ob → Ob → Prop
 | .box ty cs,.box ty' cs'=>ty=ty'∧wd cs cs'
 | .arr el sz rows,.arr el' sz' rows'=>el=el'∧sz=sz'∧rows=rows'
 | .map kk ag es,.map kk' ag' es'=>kk=kk'∧ag=ag'∧es=es'
 | .loop l L t,.loop l' L' t'=>l=l'∧L=L'∧t=t'
 | _,_=>False
def mQ:List Ob → List Ob → Prop
 | [],[]=>True
 | a :: l,b :: m=>leO a b∧mQ l m
 | _,_=>False
theorem we (e:E):leE e e:=by cases e<;>simp [leE]
theorem bT:∀ l:List E,wd l l
 | []=>trivial
 | e :: l=>⟨we e,bT l⟩
theorem aE:∀ q:PV,leP q q
 | .c e=>we e
 | .agg cs=>bT cs
 | .undef=>trivial
 | .two a b=>⟨aE a,aE b⟩
 | .three a b c=>⟨aE a,aE b,aE c⟩
theorem DW:∀ o:Ob,leO o o
 | .box _ cs=>⟨rfl,bT cs⟩
 | .arr _ _ _=>⟨rfl,rfl,rfl⟩
 | .map _ _ _=>⟨rfl,rfl,rfl⟩
 | .loop _ _ _=>⟨rfl,rfl,rfl⟩
theorem aB:∀ l:List Ob,mQ l l
 | []=>trivial
 | e :: l=>⟨DW e,aB l⟩
theorem DX {w:World} {Γ:G} {e e':E} {y:Value} (h:leE e e') (hr:RE w Γ e y):RE w Γ e' y:=by
 have h1:=RE.one hr;unfold leE at h;split at h
 ·subst h;exact hr
 ·rename_i x sz l;obtain ⟨h,rfl⟩:=h;obtain ⟨A,c,rfl⟩:=v8 h;show RD w Γ.I (.sl sz []) y;rw [dB,hr.1];exact ⟨A,c,[],rfl,Nat.zero_le _,Rd.nil,by simp,trivial⟩
 ·obtain ⟨rfl,rfl⟩:=h;exact hr.1
 ·obtain ⟨rfl,rfl⟩:=h;exact hr
 ·obtain ⟨rfl,rfl⟩:=h;exact hr
 ·obtain ⟨rfl,rfl⟩:=h;exact hr
 ·obtain ⟨rfl,rfl⟩:=h;exact hr
 ·subst h;exact hr
 ·obtain ⟨rfl,rfl,rfl,rfl⟩:=h;exact hr
 ·obtain ⟨rfl,rfl,rfl⟩:=h;exact hr
 ·subst h;exact hr
 ·obtain ⟨rfl,rfl,rfl,rfl⟩:=h;exact hr
 ·exact h1
 ·exact h.elim
theorem uF {w:World} {Γ:G}:∀ {cs cs':List E} {ys:List Value},wd cs cs' → ay (RE w Γ) cs ys → ay (RE w Γ) cs' ys
 | [],[],_,_,hr=>hr
 | a :: l,b :: m,y :: ys,h,hr=>⟨DX h.1 hr.1,uF h.2 hr.2⟩
 | _ :: _,_ :: _,[],_,hr=>hr.elim
 | [],_ :: _,_,h,_=>h.elim
 | _ :: _,[],_,h,_=>h.elim
theorem gi {w:World} {Γ:G}:∀ {q q':PV} {y:Value},leP q q' → RP w Γ q y → RP w Γ q' y
 | .c e,.c e',y,h,hr=>DX h hr
 | .agg cs,.agg ds,y,h,⟨xs,h1,h2⟩=>⟨xs,h1,uF h h2⟩
 | .undef,.undef,y,_,hr=>hr
 | .two a b,.two a' b',y,h,⟨u,v,h1,h2,h3⟩=>⟨u,v,h1,gi h.1 h2,gi h.2 h3⟩
 | .three a b c,.three a' b' c',y,h,⟨u,v,r,h1,h2,h3,h4⟩=>⟨u,v,r,h1,gi h.1 h2,gi h.2.1 h3,gi h.2.2 h4⟩
 | .c _,.agg _,_,h,_=>h.elim
 | .c _,.undef,_,h,_=>h.elim
 | .c _,.two _ _,_,h,_=>h.elim
 | .c _,.three _ _ _,_,h,_=>h.elim
 | .agg _,.c _,_,h,_=>h.elim
 | .agg _,.undef,_,h,_=>h.elim
 | .agg _,.two _ _,_,h,_=>h.elim
 | .agg _,.three _ _ _,_,h,_=>h.elim
 | .undef,.c _,_,h,_=>h.elim
 | .undef,.agg _,_,h,_=>h.elim
 | .undef,.two _ _,_,h,_=>h.elim
 | .undef,.three _ _ _,_,h,_=>h.elim
 | .two _ _,.c _,_,h,_=>h.elim
 | .two _ _,.agg _,_,h,_=>h.elim
 | .two _ _,.undef,_,h,_=>h.elim
 | .two _ _,.three _ _ _,_,h,_=>h.elim
 | .three _ _ _,.c _,_,h,_=>h.elim
 | .three _ _ _,.agg _,_,h,_=>h.elim
 | .three _ _ _,.undef,_,h,_=>h.elim
 | .three _ _ _,.two _ _,_,h,_=>h.elim
theorem qh {w:World} {Γ:G}:∀ {l l':List PV} {ys:List Value},A9 l l' → ay (RP w Γ) l ys → ay (RP w Γ) l' ys
 | [],[],_,_,hr=>hr
 | a :: l,b :: m,y :: ys,h,hr=>⟨gi h.1 hr.1,qh h.2 hr.2⟩
 | _ :: _,_ :: _,[],_,hr=>hr.elim
 | [],_ :: _,_,h,_=>h.elim
 | _ :: _,[],_,h,_=>h.elim
theorem DY {w:World} {Γ:G} {k:Nat}:∀ {o o':Ob},leO o o' → RO w Γ k o → RO w Γ k o'
 | .box ty cs,.box ty' cs',h,⟨h1,xs,h2,h3,h5⟩=>by obtain ⟨rfl,h4⟩:=h;exact ⟨h1,xs,h2,uF h4 h3,h5⟩
 | .arr el sz rows,.arr el' sz' rows',h,hr=>by obtain ⟨rfl,rfl,rfl⟩:=h;exact hr
 | .map kk ag es,.map kk' ag' es',h,hr=>by obtain ⟨rfl,rfl,rfl⟩:=h;exact hr
 | .loop l L t,.loop l' L' t',h,hr=>by obtain ⟨rfl,rfl,rfl⟩:=h;exact hr
 | .loop _ _ _,.box _ _,h,_=>h.elim
 | .loop _ _ _,.arr _ _ _,h,_=>h.elim
 | .loop _ _ _,.map _ _ _,h,_=>h.elim
 | .box _ _,.loop _ _ _,h,_=>h.elim
 | .arr _ _ _,.loop _ _ _,h,_=>h.elim
 | .map _ _ _,.loop _ _ _,h,_=>h.elim
 | .box _ _,.arr _ _ _,h,_=>h.elim
 | .box _ _,.map _ _ _,h,_=>h.elim
 | .arr _ _ _,.box _ _,h,_=>h.elim
 | .arr _ _ _,.map _ _ _,h,_=>h.elim
 | .map _ _ _,.box _ _,h,_=>h.elim
 | .map _ _ _,.arr _ _ _,h,_=>h.elim
theorem qJ:∀ {l m:List Ob} {k:Nat} {o':Ob},mQ l m → m[k]? = some o' → ∃ o,l[k]? = some o∧leO o o'
 | [],[],k,o',_,h=>by simp at h
 | a :: l,b :: m,0,o',h,h'=>by simp at h';subst h';exact ⟨a,by simp,h.1⟩
 | a :: l,b :: m,k+1,o',h,h'=>by
  obtain ⟨o,h1,h2⟩:=qJ (k:=k) h.2 (by simpa using h');exact ⟨o,by simpa using h1,h2⟩
 | [],_ :: _,_,_,h,_=>h.elim
 | _ :: _,[],_,_,h,_=>h.elim
theorem ff:∀ {l m:List Ob},mQ l m → l.length=m.length
 | [],[],_=>rfl
 | a :: l,b :: m,h=>by simp [ff h.2]
 | [],_ :: _,h=>h.elim
 | _ :: _,[],h=>h.elim
theorem kD {Γ:G} {w:World} {l m:List Ob} (h:mQ l m) (hm:bz Γ l w):bz Γ m w :=
 ⟨hm.n.trans (ff h),fun k o ho=>by obtain ⟨o0,h1,h2⟩:=qJ h ho;exact DY h2 (hm.ob k o0 h1),hm.sep,hm.off,hm.lt,hm.pin⟩
def kE (n:Nat) (e:E):Bool:=e.keys.all (· < n)
def j8 (n:Nat):PV → Bool
 | .c e=>kE n e
 | .agg cs=>cs.all (kE n)
 | .undef=>true
 | .two x y=>j8 n x && j8 n y
 | .three x y z=>j8 n x && j8 n y && j8 n z
def IQ (n:Nat):Ob → Bool
 | .box _ cs=>cs.all (kE n)
 | .loop _ _ t=>t.all fun x=>j8 n x.2
 | _=>true
theorem iq {n:Nat}:∀ {q:PV},j8 n q=true → ∀ k ∈ q.keys,k < n
 | .c e,h,k,hk=>by simp only [j8,kE,List.all_eq_true,decide_eq_true_eq] at h;exact h k hk
 | .agg cs,h,k,hk=>by
  simp only [j8,List.all_eq_true] at h;obtain ⟨e,he,hk'⟩:=List.mem_flatMap.1 hk;have:=h e he;simp only [kE,List.all_eq_true,decide_eq_true_eq] at this;exact this k hk'
 | .undef,h,k,hk=>by simp [PV.keys] at hk
 | .two x y,h,k,hk=>by
  simp only [j8,Bool.and_eq_true] at h;simp only [PV.keys,List.mem_append] at hk;rcases hk with hk|hk
  ·exact iq h.1 k hk
  ·exact iq h.2 k hk
 | .three x y z,h,k,hk=>by
  simp only [j8,Bool.and_eq_true] at h;simp only [PV.keys,List.mem_append] at hk;rcases hk with (hk|hk)|hk
  ·exact iq h.1.1 k hk
  ·exact iq h.1.2 k hk
  ·exact iq h.2 k hk
def JY:Option PV → PV → Prop
 | some r,q=>leP r q
 | none,_=>False
def Ba (s:S):List (Nat × PV) → Prop
 | []=>True
 | (i,q) :: t=>JY (s.get i) q∧Ba s t
theorem oe {s:S}:∀ {t:List (Nat × PV)} {i:Nat} {q:PV},Ba s t → cM t i=some q → ∃ r,s.get i=some r∧leP r q
 | [],i,q,_,h=>by simp [cM] at h
 | (d,r) :: t,i,q,hs,h=>by
  simp only [cM] at h;split at h
  ·rename_i e;subst e;cases h;have h1:=hs.1;cases hg:s.get i with
   | none=>rw [hg] at h1;exact h1.elim
   | some r=>rw [hg] at h1;exact ⟨r,rfl,h1⟩
  ·exact oe hs.2 h
theorem wh {n:Nat} {i:Nat} {q:PV}:∀ {t:List (Nat × PV)},cM t i=some q → (t.all fun x=>j8 n x.2)=true → j8 n q=true
 | [],h,_=>by simp [cM] at h
 | x :: t,h,h'=>by
  simp only [List.all_cons,Bool.and_eq_true] at h';simp only [cM] at h;split at h
  ·cases h;exact h'.1
  ·exact wh h h'.2
theorem wi {N p:Nat} {s s':S} (ht:Ba s s'.t) (ho:mQ (s.o.take s'.o.length) s'.o) (hp:p≤s'.o.length) (hk:(s'.t.all fun x=>j8 s'.o.length x.2)=true) (hb:s'.o.all (IQ s'.o.length)=true):bg N p s s':=by
 intro Γ a w hA;have hle:s'.o.length≤s.o.length:=by
  have:=ff ho;rw [List.length_take] at this;omega
 have hn:=hA.inv.m.n;have hΓ:∃ Γ':G,Γ'=⟨s'.o.length,Γ.β,Γ.cap,Γ.I⟩:=⟨_,rfl⟩
 obtain ⟨Γ',hΓ⟩:=hΓ;have q1:Γ'.n=s'.o.length:=by rw [hΓ]
 have q2:Γ'.I=Γ.I:=by rw [hΓ]
 have q3:Γ'.β=Γ.β:=by rw [hΓ]
 have q4:Γ'.cap=Γ.cap:=by rw [hΓ]
 have hs:dC w Γ.I w Γ'.I:=by rw [q2];exact ⟨Nat.le_refl _,fun _ _ _=>rfl,fun _ h=>h⟩
 have hag:∀ k,k < s'.o.length → fV Γ Γ' k:=fun k hk=>⟨by rw [q1];exact hk,by rw [q3],by rw [q4]⟩
 refine ⟨Γ',⟨⟨hA.inv.size,hA.inv.defers,fun i q hq=>?_,⟨q1,fun k o hk'=>?_,fun k k' h1 h2 h3 h4 h5=>?_,fun k h1 h2=>?_,fun b hb'=>?_,hA.inv.m.pins hs⟩⟩,by rw [q1];exact hp⟩,⟨Ext.refl _ _,fun b hb'=>by rw [q2];exact hb',fun k h1 h2=>?_,fun b hb'=>.inl (by rw [q2] at hb';exact hb'),fun k _=>by rw [q3,q4];exact ⟨rfl,rfl⟩⟩⟩
 ·obtain ⟨r,hr,hle⟩:=oe ht hq;obtain ⟨i1,i2⟩:=hA.inv.t i r hr;refine ⟨i1,(gi hle i2).stay hs fun k hk'=>hag k (iq ?_ k hk')⟩;have:∀ t:List (Nat × PV),cM t i=some q → (t.all fun x=>j8 s'.o.length x.2)=true → j8 s'.o.length q=true:=by
   intro t;induction t with
   | nil=>intro h;simp [cM] at h
   | cons x t ih =>
    intro h h';simp only [List.all_cons,Bool.and_eq_true] at h';simp only [cM] at h;split at h
    ·cases h;exact h'.1
    ·exact ih h h'.2
  exact this s'.t hq hk
 ·have hk2:k < s'.o.length:=(List.getElem?_eq_some_iff.1 hk').1;obtain ⟨o0,hk0,hlo⟩:=qJ ho hk';have hk3:s.o[k]? = some o0:=by rw [List.getElem?_take,if_pos hk2] at hk0;exact hk0
  have h0:=DY hlo (hA.inv.m.ob k o0 hk3);cases o with
  | box ty cs =>
   obtain ⟨j1,xs,j2,j3,j6⟩:=h0;refine ⟨by rw [q4];exact j1,xs,by rw [q3];exact j2,fw j3 hs (fun i hi=>hag i ?_),by unfold lW;rw [q4];exact j6⟩;have h1:=List.all_eq_true.1 hb (.box ty cs) (List.mem_of_getElem? hk');exact iq (q:=.agg cs) h1 i hi
  | arr el sz rows =>
   obtain ⟨j1,j2,j3,j4⟩:=h0;refine ⟨j1,j2,by rw [q4];exact j3,fun hc=>?_⟩;rw [q4] at hc ⊢;rw [q3,q2];exact j4 hc
  | map kk ag es =>
   obtain ⟨j1,ms,ck,j2,j3⟩:=h0;exact ⟨by rw [q4];exact j1,ms,ck,by rw [q3];exact j2,j3.stay hs⟩
  | loop l L t =>
   obtain ⟨j1,j2,tm,j3,j4,j5⟩:=h0;have h1:=List.all_eq_true.1 hb (.loop l L t) (List.mem_of_getElem? hk');exact ⟨by rw [q4];exact j1,by rw [q3];exact j2,tm,j3,j4,fun i q hq=>⟨(j5 i q hq).1,(j5 i q hq).2.stay hs fun i' hi'=>hag i' (iq (wh hq h1) i' hi')⟩⟩
 ·rw [q1] at h1 h2;rw [q4] at h3 h4;rw [q3] at h5;exact hA.inv.m.sep k k' ac ac h3 h4 h5
 ·rw [q1] at h1;rw [q4] at h2;rw [q2,q3];exact hA.inv.m.off k ac h2
 ·rw [q2] at hb';exact hA.inv.m.lt b hb'
 ·rw [q1] at h1;rw [q4] at h2;rw [q3];exact .inl ⟨k,ac,h2,rfl⟩
theorem dm {N p:Nat} {s:S} (i:Nat) (el:TypeId) (sz:Nat) (hsz:0 < sz) (hi:s.get i=some (.c (.v (.slice none 0 0)))):bg N p s ⟨(i,.c (.own s.o.length 0)) :: s.t,s.o++[.arr el sz []]⟩:=by
 intro Γ a w hA;have hS:=bS.refl w;have hm:bz (Γ.push 0 0) (s.o++[.arr el sz []]) w:=hA.inv.m.push hS _ 0 0 ⟨by simp,hsz,fun _=>rfl,fun h=>absurd h (by simp [G.push,ax])⟩ (fun h=>absurd h ac);have hI:=hA.inv.heap hm (hS.stay Γ.I) (cU Γ 0 0);have hn:=hA.inv.m.n;refine ⟨Γ.push 0 0,⟨⟨hI.size,hI.defers,fun j q hq=>?_,hm⟩,Nat.le_succ_of_le hA.le⟩,cz hA.inv.m (Ext.refl No w) 0 0 (fun h=>absurd h ac) hA.le⟩;simp only [S.get,cM] at hq;split at hq
 ·rename_i e;subst e;cases hq;obtain ⟨h1,h2,_⟩:=hA.inv.t j _ hi;exact ⟨h1,by simp [G.push,hn],.inl ⟨by rw [← hn];simp [G.push,ax],⟨none,h2⟩,rfl⟩⟩
 ·exact hI.t j q hq
theorem bP {N p:Nat} {s:S} (k off:Nat) (el:TypeId) (sz:Nat) (hsz:0 < sz) (ty:TypeId) (cs:List E) (hk:s.o[k]? = some (.box ty cs)) (hi:cs[off]? = some (.v (.slice none 0 0))) :
  bg N p s ⟨s.t,s.o.set k (.box ty (cs.set off (.own s.o.length 0)))++[.arr el sz []]⟩:=by
 intro Γ a w hA;have hS:=bS.refl w;have hm:bz (Γ.push 0 0) (s.o++[.arr el sz []]) w:=hA.inv.m.push hS _ 0 0 ⟨by simp,hsz,fun _=>rfl,fun h=>absurd h (by simp [G.push,ax])⟩ (fun h=>absurd h ac);have hI:=hA.inv.heap hm (hS.stay Γ.I) (cU Γ 0 0);have hn:=hA.inv.m.n;have hkl:k < s.o.length:=(List.getElem?_eq_some_iff.1 hk).1;refine ⟨Γ.push 0 0,⟨⟨hI.size,hI.defers,hI.t,⟨by simp [G.push,hn],fun j o ho=>?_,hm.sep,hm.off,hm.lt,hm.pin⟩⟩,Nat.le_succ_of_le hA.le⟩,cz hA.inv.m (Ext.refl No w) 0 0 (fun h=>absurd h ac) hA.le⟩;by_cases e:k=j
 ·subst e;rw [List.getElem?_append_left (by rw [List.length_set];exact hkl),List.getElem?_set_self hkl] at ho;cases ho;obtain ⟨j1,xs,j2,j3,j6⟩:=hm.ob k (.box ty cs) (by rw [List.getElem?_append_left hkl];exact hk);obtain ⟨y,hy,hr⟩:=j3.get off _ hi;refine ⟨j1,xs,j2,?_,j6⟩;have h4:=j3.set_ off (a:=.own s.o.length 0) (b:=y) ⟨by simp [G.push,hn],.inl ⟨by rw [← hn];simp [G.push,ax],⟨none,hr.1⟩,rfl⟩⟩;have h5:xs.set off y=xs:=by
   obtain ⟨h6,h7⟩:=List.getElem?_eq_some_iff.1 hy;rw [← h7];exact List.set_getElem_self h6
  rwa [h5] at h4
 ·refine hm.ob j o ?_;rcases Nat.lt_or_ge j s.o.length with h|h
  ·rw [List.getElem?_append_left (by rw [List.length_set];exact h),List.getElem?_set_ne e] at ho;rw [List.getElem?_append_left h];exact ho
  ·rw [List.getElem?_append_right (by rw [List.length_set];exact h),List.length_set] at ho;rw [List.getElem?_append_right h];exact ho
def E.frz (k sz:Nat) (rows:List (List D)):E → E
 | .own j n=>if j=k then (if n≤rows.length then .sl sz (rows.take n) else .any) else .own j n
 | .orow j z i f=>if j=k then .any else .orow j z i f
 | .ptr j f=>if j=k then .any else .ptr j f
 | .fn f ds ks=>if k ∈ ks then .any else .fn f ds ks
 | .mp j=>if j=k then .any else .mp j
 | .seg j z lo n=>if j=k then .any else .seg j z lo n
 | e=>e
def PV.frz (k sz:Nat) (rows:List (List D)):PV → PV
 | .c e=>.c (e.frz k sz rows)
 | .agg cs=>.agg (cs.map (E.frz k sz rows))
 | .undef=>.undef
 | .two x y=>.two (x.frz k sz rows) (y.frz k sz rows)
 | .three x y z=>.three (x.frz k sz rows) (y.frz k sz rows) (z.frz k sz rows)
def Bc (k sz:Nat) (rows:List (List D)):List (Nat × PV) → List (Nat × PV)
 | []=>[]
 | (i,q) :: t=>(i,q.frz k sz rows) :: Bc k sz rows t
def Ob.frz (k sz:Nat) (rows:List (List D)):Ob → Ob
 | .box ty cs=>.box ty (cs.map (E.frz k sz rows))
 | .loop l L t=>.loop l L (Bc k sz rows t)
 | o=>o
def uG (k sz:Nat) (rows:List (List D)):List Ob → List Ob
 | []=>[]
 | o :: os=>o.frz k sz rows :: uG k sz rows os
def S.frz (s:S) (k:Nat):S:=match s.o[k]? with
 | some (.arr el sz rows)=>⟨Bc k sz rows s.t,dw (uG k sz rows s.o) k (.arr el sz [])⟩
 | _=>s
theorem qK (k sz:Nat) (rows:List (List D)) (i:Nat):∀ t:List (Nat × PV),cM (Bc k sz rows t) i=(cM t i).map (PV.frz k sz rows)
 | []=>rfl
 | (d,q) :: t=>by
  simp only [Bc,cM];split
  ·rfl
  ·exact qK k sz rows i t
theorem wj (k sz:Nat) (rows:List (List D)) (i:Nat):∀ os:List Ob,(uG k sz rows os)[i]? = (os[i]?).map (Ob.frz k sz rows)
 | []=>by simp [uG]
 | o :: os=>by
  cases i with
  | zero=>simp [uG]
  | succ i=>simpa [uG] using wj k sz rows i os
theorem kF (k sz:Nat) (rows:List (List D)):∀ os:List Ob,(uG k sz rows os).length=os.length
 | []=>rfl
 | o :: os=>by simp [uG,kF k sz rows os]
theorem bQ {N p:Nat} {s:S} (k:Nat) (hp:p≤k):bg N p s (s.frz k):=by
 intro Γ a w hA;unfold S.frz;split
 case h_2=>exact ⟨Γ,hA,cq.refl _ _ _⟩
 rename_i el sz rows hk;have hkl:k < s.o.length:=(List.getElem?_eq_some_iff.1 hk).1;have hn:=hA.inv.m.n;have hkn:k < Γ.n:=by rw [hn];exact hkl
 obtain ⟨g1,g2,g3,g4⟩:=hA.inv.m.ob k _ hk;obtain ⟨Γ',hΓ⟩:∃ Γ':G,Γ'=⟨Γ.n,Γ.β,upd Γ.cap k 0,fun b=>Γ.I b∨(0 < Γ.cap k∧b=Γ.β k)⟩:=⟨_,rfl⟩
 have q1:Γ'.n=Γ.n:=by rw [hΓ]
 have q2:∀ b,Γ'.I b ↔ (Γ.I b∨(0 < Γ.cap k∧b=Γ.β k)):=by rw [hΓ];exact fun _=>Iff.rfl
 have q3:Γ'.β=Γ.β:=by rw [hΓ]
 have q4:Γ'.cap k=0:=by rw [hΓ];exact ax _ _ _
 have q5:∀ j,j≠k → Γ'.cap j=Γ.cap j:=fun j hj=>by rw [hΓ];exact en _ _ hj
 have hs:dC w Γ.I w Γ'.I:=⟨Nat.le_refl _,fun _ _ _=>rfl,fun b hb=>(q2 b).2 (.inl hb)⟩
 have hag:∀ j,j < Γ.n → j≠k → fV Γ Γ' j:=fun j hj hjk=>⟨by rw [q1];exact hj,by rw [q3],q5 j hjk⟩
 have hE:∀ (e:E) (y:Value),RE w Γ e y → RE w Γ' (e.frz k sz rows) y:=by
  intro e y h;have h1:=RE.one h;have hlt:=h.lt;cases e with
  | own j n =>
   simp only [E.frz];split
   ·rename_i e;subst e;split
    ·rename_i hnr;have hnl:(rows.take n).length=n:=by rw [List.length_take];omega
     show RD w Γ'.I (.sl sz (rows.take n)) y;rw [dB];rcases h.2 with ⟨c1,⟨A,rfl⟩,rfl⟩|⟨c1,rfl,c2⟩
     ·exact ⟨A,0,[],by simp,by simp,by simpa using Rd.nil,by simp,by simp [ay]⟩
     ·obtain ⟨cur,b1,b2,b3,b4,b5⟩:=g4 c1;have hb5:=b5.take (n * sz);rw [df g1 hnr,List.take_take,Nat.min_eq_left (Nat.mul_le_mul_right _ hnr)] at hb5;refine ⟨_,Γ.cap j,cur.toList.take (n * sz),by rw [hnl],ac,⟨?_,fun _=>⟨_,0,rfl,(q2 _).2 (.inr ⟨c1,rfl⟩),b1.lt,fun i u hu=>?_⟩⟩,fun r hr=>g1 r (List.mem_of_mem_take hr),hb5.mono fun _ _=>RD.stay hs _ _⟩
      ·rw [List.length_take,Array.length_toList,b2,hnl];exact Nat.min_eq_left (Nat.mul_le_mul_right _ ac)
      ·rw [b1.cell,Nat.zero_add,← Array.getElem?_toList];rw [List.getElem?_take] at hu;split at hu
       ·exact hu
       ·cases hu
    ·exact h1
   ·rename_i e;exact RE.stay h hs fun i hi=>hag i (hlt i hi) (by simp [E.keys] at hi;omega)
  | orow j z i f =>
   simp only [E.frz];split
   ·exact h1
   ·rename_i e;exact RE.stay h hs fun i hi=>hag i (hlt i hi) (by simp [E.keys] at hi;omega)
  | ptr j f =>
   simp only [E.frz];split
   ·exact h1
   ·rename_i e;exact RE.stay h hs fun i hi=>hag i (hlt i hi) (by simp [E.keys] at hi;omega)
  | fn f ds ks =>
   simp only [E.frz];split
   ·exact h1
   ·rename_i e;exact RE.stay h hs fun i hi=>hag i (hlt i hi) (by rintro rfl;exact e hi)
  | seg j z lo n =>
   simp only [E.frz];split
   ·exact h1
   ·rename_i e;exact RE.stay h hs fun i hi=>hag i (hlt i hi) (by simp [E.keys] at hi;omega)
  | mp j =>
   simp only [E.frz];split
   ·exact h1
   ·rename_i e;exact RE.stay h hs fun i hi=>hag i (hlt i hi) (by simp [E.keys] at hi;omega)
  | v x=>exact RE.stay (e:=.v x) h hs (by simp [E.keys])
  | sl z l=>exact RE.stay (e:=.sl z l) h hs (by simp [E.keys])
  | full z l=>exact RE.stay (e:=.full z l) h hs (by simp [E.keys])
  | row cs=>exact RE.stay (e:=.row cs) h hs (by simp [E.keys])
  | any=>exact h
 have hEs:∀ {cs:List E} {ys:List Value},ay (RE w Γ) cs ys → ay (RE w Γ') (cs.map (E.frz k sz rows)) ys:=fun h=>ay.map_l.2 (h.mono hE)
 have hP:∀ (q:PV) (y:Value),RP w Γ q y → RP w Γ' (q.frz k sz rows) y:=by
  intro q;induction q with
  | c e=>intro y h;exact hE e y h
  | agg cs=>rintro y ⟨xs,h1,h2⟩;exact ⟨xs,h1,hEs h2⟩
  | undef=>intro y h;exact h
  | two x z ih1 ih2=>rintro y ⟨u,v,h1,h2,h3⟩;exact ⟨u,v,h1,ih1 u h2,ih2 v h3⟩
  | three x z t ih1 ih2 ih3=>rintro y ⟨u,v,r,h1,h2,h3,h4⟩;exact ⟨u,v,r,h1,ih1 u h2,ih2 v h3,ih3 r h4⟩
 refine ⟨Γ',⟨⟨hA.inv.size,hA.inv.defers,fun i q hq=>?_,⟨by rw [q1,hn,dw,List.length_set,kF],fun j o ho=>?_,fun j j' h1 h2 h3 h4 h5=>?_,fun j h1 h2=>?_,fun b hb=>?_,hA.inv.m.pins hs⟩⟩,by rw [q1];exact hA.le⟩,⟨Ext.refl _ _,fun b hb=>(q2 b).2 (.inl hb),fun j h1 h2=>?_,fun b hb=>?_,fun j hj=>⟨by rw [q3],q5 j ac⟩⟩⟩
 ·simp only [S.get] at hq;rw [qK] at hq;obtain ⟨q0,hq0,rfl⟩:=Option.map_eq_some_iff.1 hq;obtain ⟨i1,i2⟩:=hA.inv.t i q0 hq0;exact ⟨i1,hP q0 _ i2⟩
 ·simp only [dw] at ho;by_cases hjk:k=j
  ·subst hjk;rw [List.getElem?_set_self (by rw [kF];exact hkl)] at ho;cases ho;exact ⟨by simp,g2,fun _=>rfl,fun h=>by rw [q4] at h;omega⟩
  ·rw [List.getElem?_set_ne hjk,wj] at ho;obtain ⟨o0,ho0,rfl⟩:=Option.map_eq_some_iff.1 ho;have h0:=hA.inv.m.ob j o0 ho0;cases o0 with
   | box ty cs =>
    obtain ⟨j1,xs,j2,j3,j6⟩:=h0;exact ⟨by rw [q5 j (Ne.symm hjk)];exact j1,xs,by rw [q3];exact j2,hEs j3,by unfold lW;rw [q5 j (Ne.symm hjk)];exact j6⟩
   | arr el' sz' rows' =>
    obtain ⟨j1,j2,j3,j4⟩:=h0;refine ⟨j1,j2,by rw [q5 j (Ne.symm hjk)];exact j3,fun hc=>?_⟩;rw [q5 j (Ne.symm hjk)] at hc ⊢;obtain ⟨cur,m1,m2,m3,m4,m5⟩:=j4 hc;exact ⟨cur,by rw [q3];exact m1,m2,m3,m4,m5.mono fun _ _=>RD.stay hs _ _⟩
   | map kk ag es =>
    obtain ⟨j1,ms,ck,j2,j3⟩:=h0;exact ⟨by rw [q5 j (Ne.symm hjk)];exact j1,ms,ck,by rw [q3];exact j2,j3.stay hs⟩
   | loop l L t =>
    obtain ⟨j1,j2,tm,j3,j4,j5⟩:=h0;refine ⟨by rw [q5 j (Ne.symm hjk)];exact j1,by rw [q3];exact j2,tm,j3,j4,fun i q hq=>?_⟩;rw [qK] at hq;obtain ⟨q0,hq0,rfl⟩:=Option.map_eq_some_iff.1 hq;obtain ⟨i1,i2⟩:=j5 i q0 hq0;exact ⟨i1,hP q0 _ i2⟩
 ·rw [q1] at h1 h2;have e1:j≠k:=by rintro rfl;rw [q4] at h3;omega
  have e2:j'≠k:=by rintro rfl;rw [q4] at h4;omega
  rw [q5 j e1] at h3;rw [q5 j' e2] at h4;rw [q3] at h5;exact hA.inv.m.sep j j' h1 h2 h3 h4 h5
 ·rw [q1] at h1;have e1:j≠k:=by rintro rfl;rw [q4] at h2;omega
  rw [q5 j e1] at h2;rw [q3,q2];rintro (h3|⟨h3,h4⟩)
  ·exact hA.inv.m.off j h1 h2 h3
  ·exact e1 (hA.inv.m.sep j k h1 hkn h2 h3 h4)
 ·rcases (q2 b).1 hb with h|⟨h1,rfl⟩
  ·exact hA.inv.m.lt b h
  ·exact bV hA.inv.m hkn h1
 ·rw [q1] at h1;have e1:j≠k:=by rintro rfl;rw [q4] at h2;omega
  rw [q5 j e1] at h2;rw [q3];exact .inl ⟨j,h1,h2,rfl⟩
 ·rcases (q2 b).1 hb with h|⟨h1,h2⟩
  ·exact .inl h
  ·exact .inr (.inl ⟨k,hkn,h1,h2.symm⟩)
end Go.Proofs.YtmbbkfffcflfcaaGreatDoor
