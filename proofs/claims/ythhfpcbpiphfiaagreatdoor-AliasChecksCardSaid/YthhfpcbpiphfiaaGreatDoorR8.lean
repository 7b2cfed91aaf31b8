/- What the program computes, and the plain laws of it, part 8. -/
import Derived.Scope
import Derived.TacticsIn
import Derived.OrdersIn
import Derived.Sort.QuietThIn
import Derived.Sort.LoopGhostIn
import Derived.RangeFuncRecord
import Derived.Test.YthhfpcbpiphfiaaGreatDoorR7
namespace Go.Proofs.YthhfpcbpiphfiaaGreatDoor
open Go.RowKit
open IntWalk renaming iteOmega → iO, toNatUp → tN
set_option linter.unusedVariables false
set_option linter.unusedSimpArgs false
inductive Res where
 | val (q:PV)
 | heap (q:PV) (os:List Ob)
 | app (q:PV) (os:List Ob) (kk:Option Nat)
 | stop
def Res.ofV:Option PV → Res
 | some q=>.val q
 | none=>.stop
def Res.ofH:Option (PV × List Ob) → Res
 | some (q,os)=>.heap q os
 | none=>.stop
def Res.ofA:Option (PV × List Ob × Option Nat) → Res
 | some (q,os,kk)=>.app q os kk
 | none=>.stop
def Res.lit (os:List Ob):Option PV → Res
 | some q=>.heap q os
 | none=>.stop
def appR (P:Program) (p:Nat) (os:List Ob) (t:TypeId) (x y:Option PV):Res:=match inpP P os t x y with
 | some (q,os')=>.heap q os'
 | none=>.ofA (appP P p os t x y)
def run1 (P:Program) (p:Nat) (s:S):Op → Res
 | .move x=>.ofV (s.ev x)
 | .assign x=>.ofV (s.ev x)
 | .pick c x y=>.ofV (pickP (s.ev c) (s.ev x) (s.ev y))
 | .build t parts=>.ofV (buildP P t (parts.toList.map fun x=>(x.1,s.ev x.2)))
 | .load t x=>.ofV (loadP P s.o t (s.ev x))
 | .nilCheck x=>.ofV (nilP (s.ev x))
 | .binOp op t x y _=>.ofV (binP P op t (s.ev x) (s.ev y))
 | .unOp op _ x=>.ofV (unP op (s.ev x))
 | .convert src dst x=>.ofV (convP P src dst (s.ev x))
 | .makeFunc f first cap=>.ofV (funP f (first.toList.map s.ev) (cap.toList.map s.ev))
 | .slice t x lo hi mx=>.ofV (cutP P s.o t (s.ev x) (lo.map s.ev) (hi.map s.ev) (mx.map s.ev))
 | .fieldAddr t x f=>.ofV (faP P t f (s.ev x))
 | .field t x f=>.ofV (fdP P t f (s.ev x))
 | .indexAddr t x i=>.ofV (ixP P t (s.ev x) (s.ev i))
 | .index t x i=>.ofV (byteP P t (s.ev x) (s.ev i))
 | .extract x i=>.ofV (exP i (s.ev x))
 | .lookup t x i ok=>.ofV (lookupP P s.o t ok (s.ev x) (s.ev i))
 | .makeMap t none=>.ofH (mkmapP P s.o t)
 | .mapUpdate t m k x=>.ofH (updP P s.o t (s.ev m) (s.ev k) (s.ev x))
 | .alloc t=>.ofH (boxP s.o t (zerOf P t))
 | .box t x=>.ofH (boxP s.o t (cellsE (s.ev x)))
 | .store t ad x=>.ofH (storeP P s.o t (s.ev ad) (cellsE (s.ev x)))
 | .buildSlice t len parts=>.lit s.o (litP P t len (parts.toList.map fun x=>(x.1,s.ev x.2)))
 | .call ⟨.builtin .len,⟨[x]⟩,⟨[t]⟩⟩=>.ofV (lenP P t (s.ev x))
 | .call ⟨.builtin .max,⟨l⟩,_⟩=>.ofV (mxP true (l.map s.ev))
 | .call ⟨.builtin .min,⟨l⟩,_⟩=>.ofV (mxP false (l.map s.ev))
 | .call ⟨.builtin .append,⟨[x,y]⟩,⟨[t,t']⟩⟩=>if t'=t then appR P p s.o t (s.ev x) (s.ev y) else .stop
 | .call ⟨.builtin .clear,⟨[x]⟩,⟨[t]⟩⟩=>.ofH (clearP P s.o t (s.ev x))
 | .call ⟨.builtin .delete,⟨[m,k]⟩,⟨[t,_]⟩⟩=>.ofH (delP P s.o t (s.ev m) (s.ev k))
 | _=>.stop
theorem len_box {os os':List Ob} {t:TypeId} {cs:Option (List E)} {q:PV} (h:boxP os t cs=some (q,os')):os.length≤os'.length:=by
 obtain ⟨z,_,he⟩:=Option.map_eq_some_iff.1 h
 cases he
 simp
theorem len_store {P:Program} {os os':List Ob} {t:TypeId} {x:Option PV} {cs:Option (List E)} {q:PV} (h:storeP P os t x cs=some (q,os')):os.length≤os'.length:=by
 unfold storeP at h
 split at h
 ·split at h
  ·split at h<;>cases h
   simp [setO]
  ·cases h
 ·split at h
  ·split at h<;>cases h
   simp [setO]
  ·split at h<;>cases h
   simp [setO]
  ·cases h
 ·cases h
theorem len_app {P:Program} {p:Nat} {os os':List Ob} {t:TypeId} {x y:Option PV} {q:PV} {kk:Option Nat} (h:appP P p os t x y=some (q,os',kk)):os.length≤os'.length:=by
 unfold appP at h
 split at h
 ·split at h
  ·split at h
   ·split at h
    ·split at h<;>cases h
     simp
    ·split at h<;>cases h
     simp
    ·split at h
     ·split at h<;>cases h
      simp [setO,killO_length]
     ·cases h
    ·cases h
   ·cases h
  ·cases h
 ·cases h
theorem ofV_val {x:Option PV} {q:PV} (h:Res.ofV x = .val q):x=some q:=by
 cases x with
 | none=>cases h
 | some r=>injection h with h;rw [h]
theorem ofV_heap {x:Option PV} {q:PV} {os:List Ob} (h:Res.ofV x = .heap q os):False:=by cases x<;>cases h
theorem ofV_app {x:Option PV} {q:PV} {os:List Ob} {kk:Option Nat} (h:Res.ofV x = .app q os kk):False:=by cases x<;>cases h
theorem ofH_val {x:Option (PV × List Ob)} {q:PV} (h:Res.ofH x = .val q):False:=by cases x<;>cases h
theorem ofH_heap {x:Option (PV × List Ob)} {q:PV} {os:List Ob} (h:Res.ofH x = .heap q os):x=some (q,os):=by cases x<;>cases h;rfl
theorem ofH_app {x:Option (PV × List Ob)} {q:PV} {os:List Ob} {kk:Option Nat} (h:Res.ofH x = .app q os kk):False:=by cases x<;>cases h
theorem lit_val {x:Option PV} {q:PV} {os:List Ob} (h:Res.lit os x = .val q):False:=by cases x<;>cases h
theorem lit_heap {x:Option PV} {q:PV} {os os':List Ob} (h:Res.lit os x = .heap q os'):x=some q∧os'=os:=by cases x<;>cases h;exact ⟨rfl,rfl⟩
theorem lit_app {x:Option PV} {q:PV} {os os':List Ob} {kk:Option Nat} (h:Res.lit os x = .app q os' kk):False:=by cases x<;>cases h
theorem ofA_val {x:Option (PV × List Ob × Option Nat)} {q:PV} (h:Res.ofA x = .val q):False:=by cases x<;>cases h
theorem ofA_heap {x:Option (PV × List Ob × Option Nat)} {q:PV} {os:List Ob} (h:Res.ofA x = .heap q os):False:=by cases x<;>cases h
theorem ofA_app {x:Option (PV × List Ob × Option Nat)} {q:PV} {os:List Ob} {kk:Option Nat} (h:Res.ofA x = .app q os kk):x=some (q,os,kk):=by cases x<;>cases h;rfl
theorem len_inp {P:Program} {os os':List Ob} {t:TypeId} {x y:Option PV} {q:PV} (h:inpP P os t x y=some (q,os')):os.length≤os'.length:=by
 unfold inpP at h
 split at h
 ·split at h
  ·split at h<;>cases h
   simp [setO]
  ·cases h
 ·cases h
theorem len_clear {P:Program} {os os':List Ob} {t:TypeId} {x:Option PV} {q:PV} (h:clearP P os t x=some (q,os')):os.length≤os'.length:=by
 unfold clearP at h
 split at h
 ·split at h
  ·split at h
   ·split at h<;>cases h
    simp [setO]
   ·cases h
  ·cases h
 ·cases h
theorem appR_val {P:Program} {p:Nat} {os:List Ob} {t:TypeId} {x y:Option PV} {q:PV} (h:appR P p os t x y = .val q):False:=by
 unfold appR at h
 split at h
 ·cases h
 ·exact ofA_val h
theorem appR_heap {P:Program} {p:Nat} {os os':List Ob} {t:TypeId} {x y:Option PV} {q:PV} (h:appR P p os t x y = .heap q os'):inpP P os t x y=some (q,os'):=by
 unfold appR at h
 split at h
 ·rename_i e;cases h;exact e
 ·exact (ofA_heap h).elim
theorem appR_app {P:Program} {p:Nat} {os os':List Ob} {t:TypeId} {x y:Option PV} {q:PV} {kk:Option Nat} (h:appR P p os t x y = .app q os' kk):appP P p os t x y=some (q,os',kk):=by
 unfold appR at h
 split at h
 ·cases h
 ·exact ofA_app h
theorem run1_val {P:Program} {p:Nat} {s:S} {op:Op} {q:PV} (h:run1 P p s op = .val q):pval P s op=some q:=by
 unfold run1 at h
 split at h<;>first
  | exact ofV_val h
  | exact (ofH_val h).elim
  | exact (lit_val h).elim
  | (split at h<;>first|exact (appR_val h).elim|(cases h;done))
  | cases h
theorem run1_heap {P:Program} {N p:Nat} {s:S} {o:Oper} {q:PV} {os:List Ob} (h:run1 P p s o.op = .heap q os):(∀ Γ a w,Inv N Γ s a w → p≤Γ.n → HeapOk P N p Γ s a w o q os)∧s.o.length≤os.length:=by
 obtain ⟨op,hop⟩:∃ op,op=o.op:=⟨_,rfl⟩
 rw [← hop] at h
 unfold run1 at h
 split at h<;>first
  | exact (ofV_heap h).elim
  | (have e:=ofH_heap h;exact ⟨fun Γ a w hI hp=>alloc_ok hop.symm e hI hp,len_box e⟩)
  | (have e:=ofH_heap h;exact ⟨fun Γ a w hI hp=>box_ok hop.symm e hI hp,len_box e⟩)
  | (have e:=ofH_heap h;exact ⟨fun Γ a w hI hp=>store_ok hop.symm e hI,len_store e⟩)
  | (have e:=ofH_heap h;exact ⟨fun Γ a w hI hp=>mkmap_ok hop.symm e hI hp,len_mkmap e⟩)
  | (have e:=ofH_heap h;exact ⟨fun Γ a w hI hp=>upd_ok hop.symm e hI,len_upd e⟩)
  | (obtain ⟨e,rfl⟩:=lit_heap h;exact ⟨fun Γ a w hI hp=>lit_ok hop.symm e hI,Nat.le_refl _⟩)
  | (have e:=ofH_heap h;exact ⟨fun Γ a w hI hp=>clear_ok hop.symm e hI,len_clear e⟩)
  | (have e:=ofH_heap h;exact ⟨fun Γ a w hI hp=>del_ok hop.symm e hI,len_del e⟩)
  | (split at h<;>first|(rename_i e1;subst e1;have e:=appR_heap h;exact ⟨fun Γ a w hI hp=>inp_ok hop.symm e hI,len_inp e⟩)|(cases h;done))
  | cases h
theorem run1_app {P:Program} {N p:Nat} {s:S} {o:Oper} {q:PV} {os:List Ob} {kk:Option Nat} (h:run1 P p s o.op = .app q os kk):(∀ Γ a w,Inv N Γ s a w → p≤Γ.n → AppOk P N p Γ s a w o q os kk)∧s.o.length≤os.length:=by
 obtain ⟨op,hop⟩:∃ op,op=o.op:=⟨_,rfl⟩
 rw [← hop] at h
 unfold run1 at h
 split at h<;>first
  | exact (ofV_app h).elim
  | exact (ofH_app h).elim
  | exact (lit_app h).elim
  | (split at h<;>first|(rename_i e1;subst e1;have e:=appR_app h;exact ⟨fun Γ a w hI hp=>app_ok hop.symm e hI hp,len_app e⟩)|(cases h;done))
  | cases h
structure Stands (N p:Nat) (Γ:G) (s:S) (a:Act) (w:World):Prop where
 inv:Inv N Γ s a w
 le:p≤Γ.n
def Fw (rd:Option Nat):Fence:={ Fence.wide with round:=rd }
theorem Fw_dep {rd:Option Nat} {n:Nat}:(Fw rd).depth.isSome=true → 1≤n:=fun h=>by simp [Fw,Fence.wide] at h
theorem calls_fw {rd:Option Nat} {n:Nat} {P:Program} {f:FuncId} {args:Array Value} {w:World} {R:Ending → World → Prop} (h:Calls P f args w R):CallsIn (Fw rd) n P f args w R:=callsIn_wide (n:=n).2 h
theorem fw_calls {rd:Option Nat} {n:Nat} {P:Program} {f:FuncId} {args:Array Value} {w:World} {R:Ending → World → Prop} (h:CallsIn (Fw rd) n P f args w R):Calls P f args w R:=callsIn_wide (n:=n).1 h
theorem wpIn_run {P:Program} {o:Oper} {a:Act} {w:World} {K:Act → World → Prop} {Q:Exit → Act → World → Prop} {r:Result Next} (h:(execOp a.eval o).run P w=r) (hu:o.uponIn (Fw none) 0 P a K Q r):o.wpIn (Fw none) 0 P a w K Q :=
 ⟨fun _ _=>trivial,by subst h;exact hu⟩
theorem wpIn_enter {P:Program} {o:Oper} {a:Act} {w w':World} {K:Act → World → Prop} {Q:Exit → Act → World → Prop} {f:FuncId} {args:Array Value} (h:(execOp a.eval o).run P w = .ok (.enter f args) w')
  (hc:Calls P f args w' fun e w''=>∃ v,e = .returned v∧K (a.put o.dst v) w''):o.wpIn (Fw none) 0 P a w K Q :=
 wpIn_run h ⟨Fw_dep,calls_fw (hc.mono fun e w'' ⟨v,he,hk⟩=>by subst he;exact hk)⟩
theorem put_defers (a:Act) (d:Option Nat) (v:Value):(a.put d v).defers=a.defers:=by cases d<;>rfl
def PL (P:Program) (N p:Nat) (ops:Array Oper) (l:List Oper) (s:S) (K:S → Prop):Prop :=
 ∀ (Γ:G) (a:Act) (w:World) (Q:Exit → Act → World → Prop),Stands N p Γ s a w → (∀ s' Γ' a' w',K s' → Stands N p Γ' s' a' w' → Grow p Γ w Γ' w' → a'.defers=a.defers → Q .normal a' w') → wpListIn (Fw none) 0 P ops Q l a w
def gd (ops:Array Oper) (s:S):Option (Nat × Bool) → Option Bool
 | none=>some true
 | some (j,b)=>match (ops[j]?).bind (·.dst) with
  | some d=>match s.get d with
   | some (.c (.v (.bool c)))=>some (c == b)
   | some .undef=>some false
   | _=>none
  | none=>none
theorem gd_ok {ops:Array Oper} {N:Nat} {Γ:G} {s:S} {a:Act} {w:World} {o:Oper} {r:Bool} (h:gd ops s o.guard=some r) (hI:Inv N Γ s a w):Region.wanted o (yielded ops a.tmps)=r:=by
 unfold gd at h
 split at h
 ·rename_i e;cases h;simp [Region.wanted,e]
 ·rename_i j b e
  split at h
  ·rename_i d hd
   split at h
   ·rename_i c hc
    cases h
    obtain ⟨h1,h2⟩:=hI.t d _ hc
    have h3:a.tmps[d]? = some (.bool c):=by
     have:d < a.tmps.size:=by rw [hI.size];exact h1
     rw [Array.getElem?_eq_getElem this]
     have:=h2.1
     simp only [Array.getD_eq_getD_getElem?,Array.getElem?_eq_getElem ‹d < a.tmps.size›,Option.getD_some] at this
     rw [this]
    simp only [Region.wanted,e,yielded,hd,Option.bind_some,h3]
    cases c<;>cases b<;>rfl
   ·rename_i hc
    cases h
    obtain ⟨h1,h2⟩:=hI.t d _ hc
    have h3:a.tmps[d]? = some Go.undef:=by
     have:d < a.tmps.size:=by rw [hI.size];exact h1
     rw [Array.getElem?_eq_getElem this]
     simp only [RP,Array.getD_eq_getD_getElem?,Array.getElem?_eq_getElem ‹d < a.tmps.size›,Option.getD_some] at h2
     rw [h2]
    simp only [Region.wanted,e,yielded,hd,Option.bind_some,h3,Go.undef]
    rfl
   ·cases h
  ·cases h
def dstOk (N:Nat):Option Nat → Prop
 | none=>True
 | some d=>d < N
theorem dst_lt {N:Nat} {dst:Option Nat} (h:dstOk N dst):∀ d,dst=some d → d < N:=by rintro d rfl;exact h
def killS (kk:Option Nat) (s:S):S:=match kk with
 | none=>s
 | some k=>⟨killT k s.t,s.o⟩
mutual
def pops (P:Program) (N p:Nat) (ops:Array Oper):List Oper → S → (S → Prop) → Prop
 | [],s,K=>K s
 | o :: rest,s,K=>match gd ops s o.guard,run1 P p s o.op with
  | some true,.val q=>dstOk N o.dst∧pops P N p ops rest (s.put o.dst q) K
  | some true,.heap q os=>dstOk N o.dst∧pops P N p ops rest (S.put ⟨s.t,os⟩ o.dst q) K
  | some true,.app q os kk=>dstOk N o.dst∧pops P N p ops rest (S.put (killS kk ⟨s.t,os⟩) o.dst q) K
  | some false,_=>dstOk N o.dst∧pops P N p ops rest (s.put o.dst .undef) K
  | _,_=>PL P N p ops (o :: rest) s K
end
def pgo (P:Program) (N p:Nat) (ops:Array Oper) (rest:List Oper) (K:S → Prop) (o:Oper) (s:S):Option Bool → Res → Prop
 | some true,.val q=>dstOk N o.dst∧pops P N p ops rest (s.put o.dst q) K
 | some true,.heap q os=>dstOk N o.dst∧pops P N p ops rest (S.put ⟨s.t,os⟩ o.dst q) K
 | some true,.app q os kk=>dstOk N o.dst∧pops P N p ops rest (S.put (killS kk ⟨s.t,os⟩) o.dst q) K
 | some false,_=>dstOk N o.dst∧pops P N p ops rest (s.put o.dst .undef) K
 | some true,.stop=>PL P N p ops (o :: rest) s K
 | none,_=>PL P N p ops (o :: rest) s K
theorem pops_nil (P:Program) (N p:Nat) (ops:Array Oper) (s:S) (K:S → Prop):pops P N p ops [] s K=K s:=by rw [pops]
theorem pops_cons (P:Program) (N p:Nat) (ops:Array Oper) (o:Oper) (rest:List Oper) (s:S) (K:S → Prop):pops P N p ops (o :: rest) s K=pgo P N p ops rest K o s (gd ops s o.guard) (run1 P p s o.op):=by
 rw [pops]
 generalize gd ops s o.guard=g
 generalize run1 P p s o.op=r
 cases g with
 | none=>cases r<;>rfl
 | some b=>cases b<;>cases r<;>rfl
section
variable {P:Program} {N p:Nat} {ops:Array Oper} {rest:List Oper} {o:Oper} {s:S} {K:S → Prop}
theorem pl_val {q:PV} (hg:gd ops s o.guard=some true) (h:pval P s o.op=some q) (hd:dstOk N o.dst) (hr:PL P N p ops rest (s.put o.dst q) K):PL P N p ops (o :: rest) s K:=by
 intro Γ a w Q hA hK
 obtain ⟨y,h1,h2⟩:=pval_ok h hA.inv
 unfold wpListIn
 rw [if_pos (gd_ok hg hA.inv)]
 exact wpIn_run (h2 w (Same.refl w)) (hr Γ _ w Q ⟨hA.inv.put (dst_lt hd) h1,hA.le⟩ fun s' Γ'' a' w'' hk ha hg' hd'=>hK s' Γ'' a' w'' hk ha hg' (hd'.trans (put_defers _ _ _)))
theorem pl_skip (hg:gd ops s o.guard=some false) (hd:dstOk N o.dst) (hr:PL P N p ops rest (s.put o.dst .undef) K):PL P N p ops (o :: rest) s K:=by
 intro Γ a w Q hA hK
 unfold wpListIn
 rw [if_neg (by rw [gd_ok hg hA.inv];simp)]
 exact ⟨fun _ _=>trivial,hr Γ _ w Q ⟨hA.inv.put (dst_lt hd) rfl,hA.le⟩ fun s' Γ'' a' w'' hk ha hg' hd'=>hK s' Γ'' a' w'' hk ha hg' (hd'.trans (put_defers _ _ _))⟩
theorem pl_heap {q:PV} {os:List Ob} (hg:gd ops s o.guard=some true) (h:∀ Γ a w,Stands N p Γ s a w → HeapOk P N p Γ s a w o q os) (hl:s.o.length≤os.length) (hd:dstOk N o.dst) (hr:PL P N p ops rest (S.put ⟨s.t,os⟩ o.dst q) K):PL P N p ops (o :: rest) s K:=by
 intro Γ a w Q hA hK
 obtain ⟨y,w',Γ',h1,h2,h3,h4⟩:=h Γ a w hA
 unfold wpListIn
 rw [if_pos (gd_ok hg hA.inv)]
 have hle:p≤Γ'.n:=by have h5:=hA.le;rw [hA.inv.m.n] at h5;rw [h3.m.n];exact Nat.le_trans h5 hl
 have fin:wpListIn (Fw none) 0 P ops Q rest (a.put o.dst y) w':=hr Γ' _ w' Q ⟨h3.put (dst_lt hd) h2,hle⟩ fun s' Γ'' a' w'' hk ha hg' hd'=>hK s' Γ'' a' w'' hk ha (h4.trans hg') (hd'.trans (put_defers _ _ _))
 rcases h1 with h1|⟨h1,rfl⟩
 ·exact wpIn_run h1 fin
 ·exact wpIn_run h1 fin
theorem pl_app {q:PV} {os:List Ob} {kk:Option Nat} (hg:gd ops s o.guard=some true) (h:∀ Γ a w,Stands N p Γ s a w → AppOk P N p Γ s a w o q os kk) (hl:s.o.length≤os.length) (hd:dstOk N o.dst) (hr:PL P N p ops rest (S.put (killS kk ⟨s.t,os⟩) o.dst q) K):PL P N p ops (o :: rest) s K:=by
 intro Γ a w Q hA hK
 obtain ⟨y,w',Γ',h1,h2,h3,h4⟩:=h Γ a w hA
 unfold wpListIn
 rw [if_pos (gd_ok hg hA.inv)]
 have hle:p≤Γ'.n:=by have h5:=hA.le;rw [hA.inv.m.n] at h5;rw [h3.m.n];exact Nat.le_trans h5 hl
 have h3':Inv N Γ' (killS kk ⟨s.t,os⟩) a w':=by cases kk<;>exact h3
 exact wpIn_run h1 (hr Γ' _ w' Q ⟨h3'.put (dst_lt hd) h2,hle⟩ fun s' Γ'' a' w'' hk ha hg' hd'=>hK s' Γ'' a' w'' hk ha (h4.trans hg') (hd'.trans (put_defers _ _ _)))
end
theorem pl_of_pops {P:Program} {N p:Nat} {ops:Array Oper}:∀ {l:List Oper} {s:S} {K:S → Prop},pops P N p ops l s K → PL P N p ops l s K
 | [],s,K,h=>by
  intro Γ a w Q hA hK
  rw [pops_nil] at h
  exact hK s Γ a w h hA (Grow.refl _ _ _) rfl
 | o :: rest,s,K,h=>by
  rw [pops_cons] at h
  cases hg:gd ops s o.guard with
  | none=>rw [hg] at h;unfold pgo at h;exact h
  | some b =>
   cases b with
   | false=>rw [hg] at h;unfold pgo at h;exact pl_skip hg h.1 (pl_of_pops h.2)
   | true =>
    cases hr:run1 P p s o.op with
    | val q=>rw [hg,hr] at h;unfold pgo at h;exact pl_val hg (run1_val hr) h.1 (pl_of_pops h.2)
    | stop=>rw [hg,hr] at h;unfold pgo at h;exact h
    | heap q os =>
     rw [hg,hr] at h
     unfold pgo at h
     have key:=run1_heap (N:=N) hr
     exact pl_heap hg (fun Γ a w hA=>key.1 Γ a w hA.inv hA.le) key.2 h.1 (pl_of_pops h.2)
    | app q os kk =>
     rw [hg,hr] at h
     unfold pgo at h
     have key:=run1_app (N:=N) hr
     exact pl_app hg (fun Γ a w hA=>key.1 Γ a w hA.inv hA.le) key.2 h.1 (pl_of_pops h.2)
end Go.Proofs.YthhfpcbpiphfiaaGreatDoor
