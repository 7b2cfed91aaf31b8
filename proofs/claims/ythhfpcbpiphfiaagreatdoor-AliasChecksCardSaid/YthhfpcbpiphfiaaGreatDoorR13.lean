/- What the program computes, and the plain laws of it, part 13. -/
import Derived.Test.YthhfpcbpiphfiaaGreatDoorProg
import Derived.Orders
import Derived.Test.YthhfpcbpiphfiaaGreatDoorR12
namespace Go.Proofs.YthhfpcbpiphfiaaGreatDoor
open Go.RowKit
theorem tab3:szOf Tryz.prog 3=some 1∧aggOf Tryz.prog 3=some false∧bytOf Tryz.prog 3=some 8∧zerOf Tryz.prog 3=some [.v (.int .i64 0)]∧zvOf Tryz.prog 3=some (.c (.v (.int .i64 0)))∧intOf? Tryz.prog 3=some .i64:=by and_intros<;>kernel_rfl
theorem tab4:szOf Tryz.prog 4=some 1∧aggOf Tryz.prog 4=some false∧bytOf Tryz.prog 4=some 1∧zerOf Tryz.prog 4=some [.v (.bool false)]∧zvOf Tryz.prog 4=some (.c (.v (.bool false)))∧isBool Tryz.prog 4=true:=by and_intros<;>kernel_rfl
theorem tab5:szOf Tryz.prog 5=some 1∧aggOf Tryz.prog 5=some false∧bytOf Tryz.prog 5=some 1∧zerOf Tryz.prog 5=some [.v (.int .u8 0)]∧zvOf Tryz.prog 5=some (.c (.v (.int .u8 0)))∧intOf? Tryz.prog 5=some .u8:=by and_intros<;>kernel_rfl
theorem tab9:szOf Tryz.prog 9=some 1∧aggOf Tryz.prog 9=some false∧bytOf Tryz.prog 9=some 16∧zerOf Tryz.prog 9=some [.v (.string ⟨#[]⟩)]∧zvOf Tryz.prog 9=some (.c (.v (.string ⟨#[]⟩)))∧isStr Tryz.prog 9=true:=by and_intros<;>kernel_rfl
theorem tab22:szOf Tryz.prog 22=some 1∧aggOf Tryz.prog 22=some false∧bytOf Tryz.prog 22=some 24∧zerOf Tryz.prog 22=some [.v (.slice none 0 0)]∧zvOf Tryz.prog 22=some (.c (.v (.slice none 0 0)))∧isSl Tryz.prog 22=true∧elOf Tryz.prog 22=some (36,6)∧isBytes Tryz.prog 22=false:=by and_intros<;>kernel_rfl
theorem tab23:szOf Tryz.prog 23=some 1∧aggOf Tryz.prog 23=some false∧bytOf Tryz.prog 23=some 24∧zerOf Tryz.prog 23=some [.v (.slice none 0 0)]∧zvOf Tryz.prog 23=some (.c (.v (.slice none 0 0)))∧isSl Tryz.prog 23=true∧elOf Tryz.prog 23=some (9,1)∧isBytes Tryz.prog 23=false:=by and_intros<;>kernel_rfl
theorem tab24:szOf Tryz.prog 24=some 1∧aggOf Tryz.prog 24=some false∧bytOf Tryz.prog 24=some 24∧zerOf Tryz.prog 24=some [.v (.slice none 0 0)]∧zvOf Tryz.prog 24=some (.c (.v (.slice none 0 0)))∧isSl Tryz.prog 24=true∧elOf Tryz.prog 24=some (38,2)∧isBytes Tryz.prog 24=false:=by and_intros<;>kernel_rfl
theorem tab26:szOf Tryz.prog 26=some 5∧aggOf Tryz.prog 26=some true∧bytOf Tryz.prog 26=some 120∧zerOf Tryz.prog 26=some [.v (.slice none 0 0),.v (.slice none 0 0),.v (.slice none 0 0),.v (.slice none 0 0),.v (.slice none 0 0)]∧zvOf Tryz.prog 26=some (.agg [.v (.slice none 0 0),.v (.slice none 0 0),.v (.slice none 0 0),.v (.slice none 0 0),.v (.slice none 0 0)])∧fldOf Tryz.prog 26 0=some (0,22)∧fldOf Tryz.prog 26 1=some (1,23)∧fldOf Tryz.prog 26 2=some (2,23)∧fldOf Tryz.prog 26 3=some (3,23)∧fldOf Tryz.prog 26 4=some (4,24)∧plcOf Tryz.prog 26=some [(0,1),(1,1),(2,1),(3,1),(4,1)]:=by and_intros<;>kernel_rfl
theorem tab27:szOf Tryz.prog 27=some 1∧aggOf Tryz.prog 27=some false∧bytOf Tryz.prog 27=some 24∧zerOf Tryz.prog 27=some [.v (.slice none 0 0)]∧zvOf Tryz.prog 27=some (.c (.v (.slice none 0 0)))∧isSl Tryz.prog 27=true∧elOf Tryz.prog 27=some (3,1)∧isBytes Tryz.prog 27=false:=by and_intros<;>kernel_rfl
theorem tab31:szOf Tryz.prog 31=some 2∧aggOf Tryz.prog 31=some true∧bytOf Tryz.prog 31=some 32∧zerOf Tryz.prog 31=some [.v (.slice none 0 0),.v (.int .i64 0)]∧zvOf Tryz.prog 31=some (.agg [.v (.slice none 0 0),.v (.int .i64 0)])∧fldOf Tryz.prog 31 0=some (0,27)∧fldOf Tryz.prog 31 1=some (1,3)∧plcOf Tryz.prog 31=some [(0,1),(1,1)]:=by and_intros<;>kernel_rfl
theorem tab36:szOf Tryz.prog 36=some 6∧aggOf Tryz.prog 36=some true∧bytOf Tryz.prog 36=some 120∧zerOf Tryz.prog 36=some [.v (.string ⟨#[]⟩),.v (.slice none 0 0),.v (.slice none 0 0),.v (.slice none 0 0),.v (.slice none 0 0),.v (.bool false)]∧zvOf Tryz.prog 36=some (.agg [.v (.string ⟨#[]⟩),.v (.slice none 0 0),.v (.slice none 0 0),.v (.slice none 0 0),.v (.slice none 0 0),.v (.bool false)])∧fldOf Tryz.prog 36 0=some (0,9)∧fldOf Tryz.prog 36 1=some (1,23)∧fldOf Tryz.prog 36 2=some (2,23)∧fldOf Tryz.prog 36 3=some (3,23)∧fldOf Tryz.prog 36 4=some (4,23)∧fldOf Tryz.prog 36 5=some (5,4)∧plcOf Tryz.prog 36=some [(0,1),(1,1),(2,1),(3,1),(4,1),(5,1)]:=by and_intros<;>kernel_rfl
theorem tab38:szOf Tryz.prog 38=some 2∧aggOf Tryz.prog 38=some true∧bytOf Tryz.prog 38=some 32∧zerOf Tryz.prog 38=some [.v (.string ⟨#[]⟩),.v (.string ⟨#[]⟩)]∧zvOf Tryz.prog 38=some (.agg [.v (.string ⟨#[]⟩),.v (.string ⟨#[]⟩)])∧fldOf Tryz.prog 38 0=some (0,9)∧fldOf Tryz.prog 38 1=some (1,9)∧plcOf Tryz.prog 38=some [(0,1),(1,1)]∧eqKinds Tryz.prog 38=some [.str,.str]:=by and_intros<;>kernel_rfl
theorem tab63:szOf Tryz.prog 63=some 5∧aggOf Tryz.prog 63=some true∧bytOf Tryz.prog 63=some 104∧zerOf Tryz.prog 63=some [.v (.slice none 0 0),.v (.slice none 0 0),.v (.slice none 0 0),.v (.slice none 0 0),.v (.int .i64 0)]∧zvOf Tryz.prog 63=some (.agg [.v (.slice none 0 0),.v (.slice none 0 0),.v (.slice none 0 0),.v (.slice none 0 0),.v (.int .i64 0)])∧fldOf Tryz.prog 63 0=some (0,60)∧fldOf Tryz.prog 63 1=some (1,22)∧fldOf Tryz.prog 63 2=some (2,23)∧fldOf Tryz.prog 63 3=some (3,61)∧fldOf Tryz.prog 63 4=some (4,3)∧plcOf Tryz.prog 63=some [(0,1),(1,1),(2,1),(3,1),(4,1)]:=by and_intros<;>kernel_rfl
theorem tab71:szOf Tryz.prog 71=some 1∧aggOf Tryz.prog 71=some false∧bytOf Tryz.prog 71=some 24∧zerOf Tryz.prog 71=some [.v (.slice none 0 0)]∧zvOf Tryz.prog 71=some (.c (.v (.slice none 0 0)))∧isSl Tryz.prog 71=true∧elOf Tryz.prog 71=some (111,1)∧isBytes Tryz.prog 71=false:=by and_intros<;>kernel_rfl
theorem tab75:szOf Tryz.prog 75=some 1∧aggOf Tryz.prog 75=some false∧bytOf Tryz.prog 75=some 8∧zerOf Tryz.prog 75=some [.v (.map none)]∧zvOf Tryz.prog 75=some (.c (.v (.map none))):=by and_intros<;>kernel_rfl
theorem tab77:szOf Tryz.prog 77=some 3∧aggOf Tryz.prog 77=some true∧bytOf Tryz.prog 77=some 56∧zerOf Tryz.prog 77=some [.v (.slice none 0 0),.v (.slice none 0 0),.v (.map none)]∧zvOf Tryz.prog 77=some (.agg [.v (.slice none 0 0),.v (.slice none 0 0),.v (.map none)])∧fldOf Tryz.prog 77 0=some (0,71)∧fldOf Tryz.prog 77 1=some (1,71)∧fldOf Tryz.prog 77 2=some (2,75)∧plcOf Tryz.prog 77=some [(0,1),(1,1),(2,1)]:=by and_intros<;>kernel_rfl
theorem tab78:szOf Tryz.prog 78=some 1∧aggOf Tryz.prog 78=some false∧bytOf Tryz.prog 78=some 24∧zerOf Tryz.prog 78=some [.v (.slice none 0 0)]∧zvOf Tryz.prog 78=some (.c (.v (.slice none 0 0)))∧isSl Tryz.prog 78=true∧elOf Tryz.prog 78=some (82,4)∧isBytes Tryz.prog 78=false:=by and_intros<;>kernel_rfl
theorem tab80:szOf Tryz.prog 80=some 2∧aggOf Tryz.prog 80=some true∧bytOf Tryz.prog 80=some 16∧zerOf Tryz.prog 80=some [.v (.int .i64 0),.v (.int .i64 0)]∧zvOf Tryz.prog 80=some (.agg [.v (.int .i64 0),.v (.int .i64 0)])∧fldOf Tryz.prog 80 0=some (0,3)∧fldOf Tryz.prog 80 1=some (1,3)∧plcOf Tryz.prog 80=some [(0,1),(1,1)]∧eqKinds Tryz.prog 80=some [.int,.int]:=by and_intros<;>kernel_rfl
theorem tab82:szOf Tryz.prog 82=some 4∧aggOf Tryz.prog 82=some true∧bytOf Tryz.prog 82=some 32∧zerOf Tryz.prog 82=some [.v (.int .i64 0),.v (.int .i64 0),.v (.int .i64 0),.v (.int .i64 0)]∧zvOf Tryz.prog 82=some (.agg [.v (.int .i64 0),.v (.int .i64 0),.v (.int .i64 0),.v (.int .i64 0)])∧fldOf Tryz.prog 82 0=some (0,80)∧fldOf Tryz.prog 82 1=some (2,80)∧plcOf Tryz.prog 82=some [(0,2),(2,2)]∧eqKinds Tryz.prog 82=some [.int,.int,.int,.int]:=by and_intros<;>kernel_rfl
theorem tab84:szOf Tryz.prog 84=some 1∧aggOf Tryz.prog 84=some false∧bytOf Tryz.prog 84=some 24∧zerOf Tryz.prog 84=some [.v (.slice none 0 0)]∧zvOf Tryz.prog 84=some (.c (.v (.slice none 0 0)))∧isSl Tryz.prog 84=true∧elOf Tryz.prog 84=some (5,1)∧isBytes Tryz.prog 84=true:=by and_intros<;>kernel_rfl
theorem tab88:szOf Tryz.prog 88=some 1∧aggOf Tryz.prog 88=some false∧bytOf Tryz.prog 88=some 8∧zerOf Tryz.prog 88=some [.v (.map none)]∧zvOf Tryz.prog 88=some (.c (.v (.map none)))∧mpOf Tryz.prog 88=some (none,91):=by and_intros<;>kernel_rfl
theorem tab90:szOf Tryz.prog 90=some 1∧aggOf Tryz.prog 90=some true∧bytOf Tryz.prog 90=some 8∧zerOf Tryz.prog 90=some [.v (.map none)]∧zvOf Tryz.prog 90=some (.agg [.v (.map none)])∧fldOf Tryz.prog 90 0=some (0,88)∧plcOf Tryz.prog 90=some [(0,1)]:=by and_intros<;>kernel_rfl
theorem tab91:szOf Tryz.prog 91=some 1∧aggOf Tryz.prog 91=some false∧bytOf Tryz.prog 91=some 24∧zerOf Tryz.prog 91=some [.v (.slice none 0 0)]∧zvOf Tryz.prog 91=some (.c (.v (.slice none 0 0)))∧isSl Tryz.prog 91=true∧elOf Tryz.prog 91=some (94,2)∧isBytes Tryz.prog 91=false:=by and_intros<;>kernel_rfl
theorem tab94:szOf Tryz.prog 94=some 2∧aggOf Tryz.prog 94=some true∧bytOf Tryz.prog 94=some 32∧zerOf Tryz.prog 94=some [.v (.string ⟨#[]⟩),.v (.string ⟨#[]⟩)]∧zvOf Tryz.prog 94=some (.agg [.v (.string ⟨#[]⟩),.v (.string ⟨#[]⟩)])∧fldOf Tryz.prog 94 0=some (0,9)∧fldOf Tryz.prog 94 1=some (1,9)∧plcOf Tryz.prog 94=some [(0,1),(1,1)]∧eqKinds Tryz.prog 94=some [.str,.str]:=by and_intros<;>kernel_rfl
theorem tab99:szOf Tryz.prog 99=some 1∧aggOf Tryz.prog 99=some false∧bytOf Tryz.prog 99=some 24∧zerOf Tryz.prog 99=some [.v (.slice none 0 0)]∧zvOf Tryz.prog 99=some (.c (.v (.slice none 0 0)))∧isSl Tryz.prog 99=true∧elOf Tryz.prog 99=some (23,1)∧isBytes Tryz.prog 99=false:=by and_intros<;>kernel_rfl
theorem tab102:szOf Tryz.prog 102=some 1∧aggOf Tryz.prog 102=some false∧bytOf Tryz.prog 102=some 24∧zerOf Tryz.prog 102=some [.v (.slice none 0 0)]∧zvOf Tryz.prog 102=some (.c (.v (.slice none 0 0)))∧isSl Tryz.prog 102=true∧elOf Tryz.prog 102=some (138,1)∧isBytes Tryz.prog 102=false:=by and_intros<;>kernel_rfl
theorem tab107:szOf Tryz.prog 107=some 2∧aggOf Tryz.prog 107=some true∧bytOf Tryz.prog 107=some 24∧zerOf Tryz.prog 107=some [.v (.string ⟨#[]⟩),.v (.int .i64 0)]∧zvOf Tryz.prog 107=some (.agg [.v (.string ⟨#[]⟩),.v (.int .i64 0)])∧fldOf Tryz.prog 107 0=some (0,9)∧fldOf Tryz.prog 107 1=some (1,3)∧plcOf Tryz.prog 107=some [(0,1),(1,1)]∧eqKinds Tryz.prog 107=some [.str,.int]:=by and_intros<;>kernel_rfl
theorem tab111:szOf Tryz.prog 111=some 1∧aggOf Tryz.prog 111=some false∧bytOf Tryz.prog 111=some 24∧zerOf Tryz.prog 111=some [.v (.slice none 0 0)]∧zvOf Tryz.prog 111=some (.c (.v (.slice none 0 0)))∧isSl Tryz.prog 111=true∧elOf Tryz.prog 111=some (140,129)∧isBytes Tryz.prog 111=false:=by and_intros<;>kernel_rfl
theorem tab115:szOf Tryz.prog 115=some 127∧aggOf Tryz.prog 115=some true∧bytOf Tryz.prog 115=some 127∧zerOf Tryz.prog 115=some (List.replicate 127 (.v (.bool false)))∧arrOf Tryz.prog 115=some (127,1)∧plcOf Tryz.prog 115=none:=by and_intros<;>kernel_rfl
theorem tab119:szOf Tryz.prog 119=some 1∧aggOf Tryz.prog 119=some false∧bytOf Tryz.prog 119=some 8∧zerOf Tryz.prog 119=some [.v (.map none)]∧zvOf Tryz.prog 119=some (.c (.v (.map none)))∧mpOf Tryz.prog 119=some (none,4):=by and_intros<;>kernel_rfl
theorem tab128:szOf Tryz.prog 128=some 256∧aggOf Tryz.prog 128=some true∧bytOf Tryz.prog 128=some 256∧zerOf Tryz.prog 128=some (List.replicate 256 (.v (.bool false)))∧arrOf Tryz.prog 128=some (256,1)∧plcOf Tryz.prog 128=none:=by and_intros<;>kernel_rfl
theorem tab133:szOf Tryz.prog 133=some 128∧aggOf Tryz.prog 133=some true∧bytOf Tryz.prog 133=some 128∧zerOf Tryz.prog 133=some (List.replicate 128 (.v (.bool false)))∧arrOf Tryz.prog 133=some (128,1)∧plcOf Tryz.prog 133=none:=by and_intros<;>kernel_rfl
theorem tab135:szOf Tryz.prog 135=some 130∧aggOf Tryz.prog 135=some true∧bytOf Tryz.prog 135=some 130∧zerOf Tryz.prog 135=some (List.replicate 130 (.v (.bool false)))∧fldOf Tryz.prog 135 0=some (0,4)∧fldOf Tryz.prog 135 1=some (1,4)∧fldOf Tryz.prog 135 2=some (2,133)∧plcOf Tryz.prog 135=some [(0,1),(1,1),(2,128)]:=by and_intros<;>kernel_rfl
theorem tab138:szOf Tryz.prog 138=some 1∧aggOf Tryz.prog 138=some false∧bytOf Tryz.prog 138=some 24∧zerOf Tryz.prog 138=some [.v (.slice none 0 0)]∧zvOf Tryz.prog 138=some (.c (.v (.slice none 0 0)))∧isSl Tryz.prog 138=true∧elOf Tryz.prog 138=some (135,130)∧isBytes Tryz.prog 138=false:=by and_intros<;>kernel_rfl
theorem tab140:szOf Tryz.prog 140=some 129∧aggOf Tryz.prog 140=some true∧bytOf Tryz.prog 140=some 129∧fldOf Tryz.prog 140 0=some (0,5)∧fldOf Tryz.prog 140 1=some (1,4)∧fldOf Tryz.prog 140 2=some (2,115)∧plcOf Tryz.prog 140=some [(0,1),(1,1),(2,127)]:=by and_intros<;>kernel_rfl
attribute [push_cast] tab3 tab4 tab5 tab9 tab22 tab23 tab24 tab26 tab27 tab31 tab36 tab38 tab63 tab71 tab75 tab77 tab78 tab80 tab82 tab84 tab88 tab90 tab91 tab94 tab99 tab102 tab107 tab111 tab115 tab119 tab128 tab133 tab135 tab138 tab140
end Go.Proofs.YthhfpcbpiphfiaaGreatDoor
namespace Go.Proofs.YthhfpcbpiphfiaaGreatDoor
open Go.RowKit
open IntWalk renaming iteOmega → iO, toNatUp → tN
set_option linter.unusedVariables false
set_option linter.unusedSimpArgs false
theorem oper_wp_to {P:Program} {o:Oper} {a:Act} {w:World} {K K':Act → World → Prop} {Q Q':Exit → Act → World → Prop} (h:∀ a w,K a w → K' a w) (hq:∀ e a w,e≠.normal → ¬ Q e a w)
  (hh:o.wpIn (Fw none) 0 P a w K Q):o.wpIn (Fw none) 0 P a w K' Q':=by
 refine ⟨fun _ _=>trivial,?_⟩
 have hh:=hh.2
 generalize (o.semAt (Fw none).round a.eval).run P w=r at *
 cases r with
 | ok n w' =>
  cases n with
  | value v=>exact h _ _ hh
  | skip=>exact h _ _ hh
  | defer d=>exact h _ _ hh
  | enter f args =>
   simp only [Oper.uponIn] at hh ⊢
   refine ⟨hh.1,CallsIn.mono hh.2 fun e w'' he=>?_⟩
   cases e with
   | returned v=>exact h _ _ he
   | panicked ch=>exact absurd he (hq _ _ _ (by simp))
   | outgrown=>obtain ⟨a',w3,h3⟩:=he;exact absurd h3 (hq _ _ _ (by simp))
  | row r args =>
   simp only [Oper.uponIn] at hh ⊢
   exact ⟨hh.1,RowsIn.mono hh.2 fun _ _ he=>h _ _ he⟩
  | round l f tmps assign body =>
   simp only [Oper.uponIn] at hh ⊢
   refine ⟨hh.1,RoundIn.mono hh.2 fun e w'' he=>?_⟩
   cases e with
   | returned v=>exact h _ _ he
   | panicked ch=>exact absurd he (hq _ _ _ (by simp))
   | outgrown=>obtain ⟨a',w3,h3⟩:=he;exact absurd h3 (hq _ _ _ (by simp))
  | _=>exact hh.elim
 | halt x w' =>
  cases x with
  | panic v=>exact absurd hh (hq _ _ _ (by simp))
  | _=>exact hh.elim
theorem pfree_about {P:Program} {o:Oper} (h:pfree o.op=true) (w:World) (ρ:Operand → Value):o.about P w ρ=none:=by
 unfold Oper.about
 split
 ·rename_i c hc
  rw [hc] at h
  unfold pfree at h
  split at h<;>first|(cases h;done)|skip
  all_goals (rename_i e;first|(cases e;simp [resolve,Target.leads])|(cases e))
 ·rfl
section
variable {P:Program} {N p:Nat} {ops:Array Oper} {s:S} {K:S → Prop} {fuel:Nat} {listed:Array Bool}
def PA (P:Program) (N p:Nat) (ops:Array Oper) (fuel:Nat) (listed:Array Bool) (s:S) (K:S → Prop):Prop :=
 ∀ (Γ:G) (a:Act) (w:World) (Q:Exit → Act → World → Prop),Stands N p Γ s a w → (∀ s' Γ' a' w',K s' → Stands N p Γ' s' a' w' → Grow p Γ w Γ' w' → a'.defers=a.defers → Q .normal a' w') → wpAnyIn (Fw none) 0 P .any ops Q fuel listed a w
theorem pa_done (hr:Region.ready .any ops listed=[]) (h:K s):PA P N p ops fuel listed s K:=fun Γ a w Q hA hK=>by
 have:=hK s Γ a w h hA (Grow.refl _ _ _) rfl
 cases fuel with
 | zero=>exact ⟨hr,this⟩
 | succ f=>exact ⟨fun _=>this,fun i hi=>by rw [hr] at hi;cases hi⟩
def paOne (P:Program) (N p:Nat) (ops:Array Oper) (fuel:Nat) (listed:Array Bool) (s:S) (K:S → Prop) (i:Nat):Option Oper → Prop
 | some o=>pops P N p ops [o] s (fun s'=>PA P N p ops fuel (listed.setIfInBounds i true) s' K)
 | none=>False
def paAll (P:Program) (N p:Nat) (ops:Array Oper) (fuel:Nat) (listed:Array Bool) (s:S) (K:S → Prop):List Nat → Prop
 | []=>True
 | i :: r=>paOne P N p ops fuel listed s K i ops[i]?∧paAll P N p ops fuel listed s K r
theorem paAll_mem:∀ {l:List Nat},paAll P N p ops fuel listed s K l → ∀ i ∈ l,paOne P N p ops fuel listed s K i ops[i]?
 | [],_,i,hi=>by cases hi
 | j :: r,h,i,hi=>by
  rcases List.mem_cons.1 hi with rfl|hi
  ·exact h.1
  ·exact paAll_mem h.2 i hi
theorem pa_step (l:List Nat) (hr:Region.ready .any ops listed=l) (hl:l.isEmpty=false) (h:paAll P N p ops fuel listed s K l):PA P N p ops (fuel+1) listed s K:=fun Γ a w Q hA hK=>by
 refine ⟨fun h0=>?_,fun i hi=>?_⟩
 ·rw [hr] at h0;subst h0;cases hl
 ·rw [hr] at hi
  have h1:=paAll_mem h i hi
  unfold wpOpIn
  cases ho:ops[i]? with
  | none=>rw [ho] at h1;exact h1.elim
  | some o =>
   rw [ho] at h1
   have h2:=pl_of_pops h1 Γ a w (fun e a' w'=>e = .normal∧wpAnyIn (Fw none) 0 P .any ops Q fuel (listed.setIfInBounds i true) a' w') hA (fun s' Γ' a' w' hk hA' hg hd=>⟨rfl,hk Γ' a' w' Q hA' fun s'' Γ'' a'' w'' hk' hA'' hg' hd'=>hK s'' Γ'' a'' w'' hk' hA'' (hg.trans hg') (hd'.trans hd)⟩)
   unfold wpListIn at h2
   simp only []
   split
   ·rename_i hw
    rw [if_pos hw] at h2
    exact oper_wp_to (fun a' w' h=>h.2) (fun e a' w' hne h=>hne h.1) h2
   ·rename_i hw
    rw [if_neg hw] at h2
    exact ⟨h2.1,h2.2.2⟩
def nrm (Q:Exit → Act → World → Prop):Exit → Act → World → Prop:=fun e a w=>e = .normal∧Q .normal a w
theorem wpAny_nrm {Q:Exit → Act → World → Prop}:∀ {fuel:Nat} {listed:Array Bool} {a:Act} {w:World},wpAnyIn (Fw none) 0 P .any ops (nrm Q) fuel listed a w → wpAnyIn (Fw none) 0 P .any ops Q fuel listed a w
 | 0,_,_,_,h=>⟨h.1,h.2.2⟩
 | fuel+1,listed,a,w,h=>⟨fun h0=>(h.1 h0).2,fun i hi=>by
  have h1:=h.2 i hi
  unfold wpOpIn at h1 ⊢
  split
  ·rename_i ho;rw [ho] at h1;exact wpAny_nrm h1
  ·rename_i o ho
   rw [ho] at h1
   simp only at h1
   split
   ·rename_i hw
    rw [if_pos hw] at h1
    exact oper_wp_to (fun _ _ h=>wpAny_nrm h) (fun e a' w' hne h=>hne h.1) h1
   ·rename_i hw
    rw [if_neg hw] at h1
    exact ⟨h1.1,wpAny_nrm h1.2⟩⟩
def freeAt (ops:Array Oper) (i:Nat):Bool:=match ops[i]? with
 | some o=>pfree o.op
 | none=>false
def hoR (P:Program) (N p:Nat) (ops:Array Oper) (fuel:Nat) (listed:Array Bool) (s:S) (K:S → Prop) (i:Nat) (o:Oper):Option Bool → Res → Prop
 | some true,.val q=>dstOk N o.dst∧PA P N p ops fuel (listed.setIfInBounds i true) (s.put o.dst q) K
 | some false,_=>dstOk N o.dst∧PA P N p ops fuel (listed.setIfInBounds i true) (s.put o.dst .undef) K
 | _,_=>False
def hoG (P:Program) (N p:Nat) (ops:Array Oper) (fuel:Nat) (listed:Array Bool) (s:S) (K:S → Prop) (i:Nat):Option Oper → Prop
 | some o=>hoR P N p ops fuel listed s K i o (gd ops s o.guard) (run1 P p s o.op)
 | none=>False
theorem pa_hoist (i:Nat) (hB:(Region.noSelect ops && (Region.ready .any ops listed).contains i && Region.free .any ops listed i && freeAt ops i)=true) (h:hoG P N p ops fuel listed s K i ops[i]?):PA P N p ops (fuel+1) listed s K:=fun Γ a w Q hA hK=>by
 simp only [Bool.and_eq_true,List.contains_iff_mem] at hB
 obtain ⟨⟨⟨b1,b2⟩,b3⟩,b4⟩:=hB
 cases ho:ops[i]? with
 | none=>rw [ho] at h;exact h.elim
 | some o =>
  rw [ho] at h
  have hf:pfree o.op=true:=by unfold freeAt at b4;rw [ho] at b4;exact b4
  change hoR P N p ops fuel listed s K i o (gd ops s o.guard) (run1 P p s o.op) at h
  refine wpAny_nrm ?_
  have hQ:∀ (v:Value) c a' w',nrm Q (.panic c) (a'.put o.dst v) w' → nrm Q (.panic c) a' w':=fun v c a' w' h=>absurd h.1 (by simp)
  unfold hoR at h
  split at h
  ·rename_i q hg hr
   obtain ⟨hd,hn⟩:=h
   obtain ⟨y,h1,h2⟩:=pval_free hf (run1_val hr) hA.inv
   refine wpAnyIn_first rfl ho (Region.noSelect_spec b1) (hQ y) fuel listed a w (Region.free_spec ho b3) b2 ⟨.inl ⟨gd_ok hg hA.inv,h2⟩,fun w=>pfree_about hf w _⟩ ?_
   exact hn Γ _ w _ ⟨hA.inv.put (dst_lt hd) h1,hA.le⟩ fun s' Γ' a' w' hk ha hg' hd'=>⟨rfl,hK s' Γ' a' w' hk ha hg' (hd'.trans (put_defers _ _ _))⟩
  ·rename_i r hg
   obtain ⟨hd,hn⟩:=h
   refine wpAnyIn_first rfl ho (Region.noSelect_spec b1) (hQ Go.undef) fuel listed a w (Region.free_spec ho b3) b2 ⟨.inr ⟨gd_ok hg hA.inv,rfl⟩,fun w=>pfree_about hf w _⟩ ?_
   exact hn Γ _ w _ ⟨hA.inv.put (dst_lt hd) rfl,hA.le⟩ fun s' Γ' a' w' hk ha hg' hd'=>⟨rfl,hK s' Γ' a' w' hk ha hg' (hd'.trans (put_defers _ _ _))⟩
  ·exact h.elim
theorem pa_weak {s':S} (hw:Weak N p s s') (h:PA P N p ops fuel listed s' K):PA P N p ops fuel listed s K:=fun Γ a w Q hA hK=>by
 obtain ⟨Γ1,h1,g1⟩:=hw Γ a w hA
 exact h Γ1 a w Q h1 fun s2 Γ2 a2 w2 hk hA2 hg hd=>hK s2 Γ2 a2 w2 hk hA2 (g1.trans hg) hd
theorem pa_hav {f0 fuel:Nat} {l0 listed:Array Bool} {s0 s:S} (h:PA P N p ops fuel listed s K → PA P N p ops f0 l0 s0 K) (h2:PA P N p ops fuel listed s K):PA P N p ops f0 l0 s0 K:=h h2
theorem pwp_drawn {rd:Option Nat} {Q:Exit → S → Prop} {id:Nat} {l:List Oper} (hmp:(P.follows .mixedOrders && plains l)=true) (h:PA P N p l.toArray l.length (Array.replicate l.length false) s (fun s'=>Q .normal s')):PWPr rd P N p (.region id l.toArray true) Q s:=fun z Γ a w hA hD=>by
 simp only [Bool.and_eq_true] at hmp
 refine wpIn_region_any hmp.1 (any_rd (by simpa using hmp.2) ?_)
 have hX:Ext No w { w with drawn:=w.drawn+1 }:=(Ext.refl No w).drew
 exact h Γ a _ _ ⟨hA.inv.same (Same.of_ext hX),hA.le⟩ fun s' Γ' a' w' hk hA' hg hd=>⟨s',Γ',hk,hA',(ext_grow hX).trans hg,hD.grow ((ext_grow (p:=p) hX).trans hg) hd⟩
theorem pwp_drawn_to {rd:Option Nat} {Q:Exit → S → Prop} {id:Nat} {l:List Oper} (s1:S) (hmp:(P.follows .mixedOrders && plains l)=true) (h:PA P N p l.toArray l.length (Array.replicate l.length false) s (fun s'=>Weak N p s' s1)) (hq:Q .normal s1):PWPr rd P N p (.region id l.toArray true) Q s:=fun z Γ a w hA hD=>by
 simp only [Bool.and_eq_true] at hmp
 refine wpIn_region_any hmp.1 (any_rd (by simpa using hmp.2) ?_)
 have hX:Ext No w { w with drawn:=w.drawn+1 }:=(Ext.refl No w).drew
 refine h Γ a _ _ ⟨hA.inv.same (Same.of_ext hX),hA.le⟩ fun s' Γ' a' w' hk hA' hg hd=>?_
 obtain ⟨Γ2,hA2,hg2⟩:=hk Γ' a' w' hA'
 exact ⟨s1,Γ2,hq,hA2,(ext_grow hX).trans (hg.trans hg2),hD.grow ((ext_grow (p:=p) hX).trans (hg.trans hg2)) hd⟩
end
attribute [push_cast] paOne paAll hoG hoR
attribute [local irreducible] PA
end Go.Proofs.YthhfpcbpiphfiaaGreatDoor
namespace Go.Proofs.YthhfpcbpiphfiaaGreatDoor
open Go.RowKit
open IntWalk renaming iteOmega → iO, toNatUp → tN
set_option linter.unusedVariables false
set_option linter.unusedSimpArgs false
def consIf {α:Type}:Bool → α → List α → List α
 | true,a,l=>a :: l
 | false,_,l=>l
def cutT (B:Nat) (ex dead:List Nat):List (Nat × PV) → List (Nat × PV)
 | []=>[]
 | (i,q) :: t=>consIf ((decide (i < B) || memB i ex) && !memB i dead) (i,q) (cutT B ex (consIf (decide (i < B) || memB i ex) i dead) t)
theorem memB_mem {i:Nat}:∀ {l:List Nat},memB i l=true ↔ i ∈ l
 | []=>by simp [memB]
 | j :: l=>by
  simp only [memB,List.mem_cons]
  split
  ·rename_i e;simp [e]
  ·rename_i e;rw [memB_mem (l:=l)];exact ⟨.inr,fun h=>h.resolve_left fun h'=>e h'.symm⟩
theorem cutT_look {B:Nat} {ex:List Nat} {i:Nat} {q:PV}:∀ {t:List (Nat × PV)} {dead:List Nat},look (cutT B ex dead t) i=some q → (i < B∨i ∈ ex)∧i ∉ dead∧look t i=some q
 | [],dead,h=>by simp [cutT,look] at h
 | (j,r) :: t,dead,h=>by
  rw [cutT] at h
  cases hk:(decide (j < B) || memB j ex)
  ·rw [hk] at h
   simp only [Bool.false_and,consIf] at h
   obtain ⟨h1,h2,h3⟩:=cutT_look h
   refine ⟨h1,h2,?_⟩
   simp only [look]
   rw [if_neg ?_]
   ·exact h3
   ·rintro rfl
    have:(decide (i < B) || memB i ex)=true:=by simpa only [Bool.or_eq_true,decide_eq_true_eq,memB_mem] using h1
    rw [hk] at this;cases this
  ·rw [hk] at h
   simp only [Bool.true_and,consIf] at h
   have hk':j < B∨j ∈ ex:=by simpa only [Bool.or_eq_true,decide_eq_true_eq,memB_mem] using hk
   cases hd:memB j dead
   ·rw [hd] at h
    simp only [Bool.not_false,consIf,look] at h ⊢
    by_cases e:i=j
    ·subst e
     rw [if_pos rfl] at h ⊢
     exact ⟨hk',(fun hj=>by rw [← memB_mem,hd] at hj;cases hj),h⟩
    ·rw [if_neg e] at h ⊢
     obtain ⟨h1,h2,h3⟩:=cutT_look h
     exact ⟨h1,fun hi=>h2 (List.mem_cons_of_mem _ hi),h3⟩
   ·rw [hd] at h
    simp only [Bool.not_true,consIf,look] at h ⊢
    obtain ⟨h1,h2,h3⟩:=cutT_look h
    have e:i≠j:=fun e=>h2 (by rw [e];exact List.mem_cons_self)
    rw [if_neg e]
    exact ⟨h1,fun hi=>h2 (List.mem_cons_of_mem _ hi),h3⟩
theorem weak_cutT {N p:Nat} (B:Nat) (ex dead:List Nat) (s:S):Weak N p s ⟨cutT B ex dead s.t,s.o⟩:=fun Γ a w hA =>
 ⟨Γ,⟨⟨hA.inv.size,hA.inv.defers,fun i q hi=>hA.inv.t i q (cutT_look hi).2.2,hA.inv.m⟩,hA.le⟩,Grow.refl _ _ _⟩
def cutS (B:Nat) (ex:List Nat) (s:S):S:=⟨cutT B ex [] s.t,s.o⟩
theorem weak_cutS {N p:Nat} (B:Nat) (ex:List Nat) (s:S):Weak N p s (cutS B ex s):=weak_cutT B ex [] s
def setM:List Ob → List (Nat × Ob) → List Ob
 | os,[]=>os
 | os,(k,o) :: r=>setM (os.set k o) r
section
variable {rd:Option Nat} {P:Program} {N p:Nat} {Q:Exit → S → Prop} {s:S}
theorem pwp_cut (B:Nat) (ex:List Nat) {c:Code} (h:PWPr rd P N p c Q (cutS B ex s)):PWPr rd P N p c Q s:=pwp_weak (weak_cutS B ex s) h
theorem pwp_loop3 {c:Code} {α:Type} (B:Nat) (ex:List Nat) (f:α → List (Nat × PV)) (g:α → List (Nat × Ob)) (Φ:α → Prop) (μ:α → Nat) (x0:α) {t0:List (Nat × PV)} (ht:cutT B ex ((f x0).map Prod.fst) s.t=t0) (h0:Φ x0)
  (hw:Weak N p s ⟨f x0++t0,setM s.o (g x0)⟩)
  (round:∀ x,Φ x → PWPr rd P N p c (thenE (fun s'=>∃ x',Φ x'∧Weak N p s' ⟨f x'++t0,setM s.o (g x')⟩∧μ x' < μ x) Q) ⟨f x++t0,setM s.o (g x)⟩):PWPr rd P N p (.loop c) Q s :=
 pwp_loop2 Φ (fun x=>⟨f x++t0,setM s.o (g x)⟩) μ x0 h0 hw round
end
attribute [push_cast] fillA consIf cutT cutS setM List.set_cons_zero List.set_cons_succ List.cons_append List.nil_append List.append_assoc Bool.and_true Bool.true_and Bool.false_and Bool.and_false Bool.or_true Bool.true_or Bool.or_false Bool.false_or Bool.not_true Bool.not_false decide_true decide_false Bool.false_eq_true
def cutO:Option (Nat × List Nat) → S → S
 | none,s=>s
 | some (B,ex),s=>cutS B ex s
def sel (n:Nat) (f g:S → Prop) (s:S):Prop:=if n=1 then f s else g s
theorem sel_one (f g:S → Prop) (s:S):sel 1 f g s=f s:=by simp [sel]
theorem sel_zero (f g:S → Prop) (s:S):sel 0 f g s=g s:=by simp [sel]
def condG:Option PV → (S → Prop) → (S → Prop) → S → Prop
 | some (.c (.v (.bool t))),f,g,s=>sel (if t=true then 1 else 0) f g s
 | _,_,_,_=>False
theorem condG_bool (t:Bool) (f g:S → Prop) (s:S):condG (some (.c (.v (.bool t)))) f g s=sel (if t=true then 1 else 0) f g s:=rfl
theorem pif {p:Prop} [Decidable p] {f g:S → Prop} {s:S} (h1:p → f s) (h2:¬ p → g s):sel (if p then 1 else 0) f g s:=by
 by_cases h:p
 ·rw [if_pos h,sel_one];exact h1 h
 ·rw [if_neg h,sel_zero];exact h2 h
theorem sel_dec (p:Prop) [Decidable p]:(if decide p=true then (1:Nat) else 0)=if p then 1 else 0:=by by_cases h:p<;>simp [h]
theorem cT {b:Bool} {X:Prop} (h:b=true) (h':b=false):X:=by rw [h] at h';cases h'
theorem cF {b:Bool} {X:Prop} (h:b=false) (h':b=true):X:=by rw [h] at h';cases h'
theorem cN:(∀ (b:Bool),(¬ b=true)=(b=false))∧(∀ (b:Bool),((!b)=true)=(b=false))∧(∀ (a b:Int),(¬ a < b)=(b≤a))∧(∀ (a b:Int),(¬ a≤b)=(b < a))∧(∀ (a b:Nat),(¬ a < b)=(b≤a))∧(∀ (a b:Nat),(¬ a≤b)=(b < a)) :=
 ⟨fun b=>by cases b<;>simp,fun b=>by cases b<;>simp,fun a b=>by simp,fun a b=>by simp,fun a b=>by simp,fun a b=>by simp⟩
def go1 (rd:Option Nat) (P:Program) (N p:Nat) (ct:Option (Nat × List Nat)):Code → (Exit → S → Prop) → S → Prop
 | .seq x y,Q,s=>go1 rd P N p ct x (thenE (go1 rd P N p ct y Q) Q) s
 | .block id c,Q,s=>go1 rd P N p ct c (inE id Q) s
 | .scope c,Q,s=>go1 rd P N p ct c (noG Q) s
 | .skip,Q,s=>Q .normal s
 | .exit i,Q,s=>Q (.exit i) s
 | .ret,Q,s=>Q .ret s
 | .cond c x y,Q,s=>condG (s.ev c) (go1 rd P N p ct x Q) (go1 rd P N p ct y Q) s
 | .region id ops dr,Q,s=>match dr with
  | false=>pops P N p ops ops.toList (cutO ct s) (Q .normal)
  | true=>PWPr rd P N p (.region id ops true) Q s
 | .loop c,Q,s=>PWPr rd P N p (.loop c) Q s
 | .rangeFunc g ps x y,Q,s=>PWPr rd P N p (.rangeFunc g ps x y) Q s
 | .label l,Q,s=>PWPr rd P N p (.label l) Q s
 | .goto l,Q,s=>PWPr rd P N p (.goto l) Q s
 | .refuse w,Q,s=>PWPr rd P N p (.refuse w) Q s
def okc:Code → Bool
 | .seq x y=>okc x && okc y
 | .block _ c=>okc c
 | .scope c=>okc c
 | .cond _ x y=>okc x && okc y
 | .region _ ops false=>plains ops.toList
 | _=>true
def stp:Code → Bool
 | .seq _ _=>true
 | .block _ _=>true
 | .scope _=>true
 | .skip=>true
 | .exit _=>true
 | .ret=>true
 | .cond _ _ _=>true
 | .region _ _ false=>true
 | _=>false
section
variable {rd:Option Nat} {P:Program} {N p:Nat} {ct:Option (Nat × List Nat)} {Q:Exit → S → Prop} {s:S}
theorem go1_seq (x y:Code):go1 rd P N p ct (.seq x y) Q s=go1 rd P N p ct x (thenE (go1 rd P N p ct y Q) Q) s:=by rw [go1]
theorem go1_block (id:Nat) (c:Code):go1 rd P N p ct (.block id c) Q s=go1 rd P N p ct c (inE id Q) s:=by rw [go1]
theorem go1_scope (c:Code):go1 rd P N p ct (.scope c) Q s=go1 rd P N p ct c (noG Q) s:=by rw [go1]
theorem go1_skip:go1 rd P N p ct .skip Q s=Q .normal s:=by rw [go1]
theorem go1_exit (i:Nat):go1 rd P N p ct (.exit i) Q s=Q (.exit i) s:=by rw [go1]
theorem go1_ret:go1 rd P N p ct .ret Q s=Q .ret s:=by rw [go1]
theorem go1_cond (c:Operand) (x y:Code):go1 rd P N p ct (.cond c x y) Q s=condG (s.ev c) (go1 rd P N p ct x Q) (go1 rd P N p ct y Q) s:=by rw [go1]
theorem go1_region (id:Nat) (l:List Oper):go1 rd P N p ct (.region id l.toArray false) Q s=pops P N p l.toArray l (cutO ct s) (Q .normal):=by rw [go1]
theorem go1_drawn (id:Nat) (ops:Array Oper):go1 rd P N p ct (.region id ops true) Q s=PWPr rd P N p (.region id ops true) Q s:=by rw [go1]
theorem go1_loop (c:Code):go1 rd P N p ct (.loop c) Q s=PWPr rd P N p (.loop c) Q s:=by rw [go1]
theorem cutO_none (s:S):cutO none s=s:=rfl
theorem cutO_some (B:Nat) (ex:List Nat) (s:S):cutO (some (B,ex)) s=cutS B ex s:=rfl
theorem weak_cutO (ct:Option (Nat × List Nat)) (s:S):Weak N p s (cutO ct s):=by
 cases ct with
 | none=>exact Weak.refl _ _ _
 | some x=>exact weak_cutS x.1 x.2 s
theorem go1_ok:∀ {c:Code} {Q:Exit → S → Prop} {s:S},okc c=true → go1 rd P N p ct c Q s → PWPr rd P N p c Q s:=by
 intro c
 induction c with
 | seq x y ihx ihy =>
  intro Q s ho h
  simp only [okc,Bool.and_eq_true] at ho
  rw [go1_seq] at h
  refine pwp_seq fun K hK=>pwp_mono (ihx ho.1 h) fun e s' hq=>?_
  cases e with
  | normal=>exact hK s' (ihy ho.2 hq)
  | _=>exact hq
 | block id c ih=>intro Q s ho h;rw [go1_block] at h;exact pwp_block (ih ho h)
 | scope c ih=>intro Q s ho h;rw [go1_scope] at h;exact pwp_scope (ih ho h)
 | skip=>intro Q s ho h;rw [go1_skip] at h;exact pwp_skip h
 | exit i=>intro Q s ho h;rw [go1_exit] at h;exact pwp_exit h
 | ret=>intro Q s ho h;rw [go1_ret] at h;exact pwp_ret h
 | cond c x y ihx ihy =>
  intro Q s ho h
  simp only [okc,Bool.and_eq_true] at ho
  rw [go1_cond] at h
  refine pwp_cond ?_
  unfold condG at h
  split at h
  ·rename_i t e
   rw [e]
   cases t with
   | true=>exact ⟨fun _=>ihx ho.1 (by simpa [sel] using h),fun h'=>by cases h'⟩
   | false=>exact ⟨fun h'=>(by cases h'),fun _=>ihy ho.2 (by simpa [sel] using h)⟩
  ·exact h.elim
 | region id ops dr =>
  intro Q s ho h
  cases dr with
  | true=>rw [go1_drawn] at h;exact h
  | false =>
   obtain ⟨l⟩:=ops
   rw [go1_region] at h
   exact pwp_weak (weak_cutO ct s) (pwp_region h ho)
 | _=>intro Q s ho h;unfold go1 at h;exact h
theorem g1 {c:Code} (hs:stp c=true) (ho:okc c=true) (h:go1 rd P N p none c Q s):PWPr rd P N p c Q s:=go1_ok ho h
end
attribute [push_cast] sel_one sel_zero sel_dec condG_bool go1_seq go1_block go1_scope go1_skip go1_exit go1_ret go1_cond go1_region go1_drawn go1_loop cutO_none cutO_some
section
variable {rd:Option Nat} {P:Program} {N p:Nat} {Q:Exit → S → Prop} {s:S} {o:Oper} {ops:Array Oper} {rest:List Oper} {K:S → Prop} {fuel:Nat} {listed:Array Bool}
def CutB (_:Nat) (_:List Nat):Prop:=True
theorem pG {c:Code} (h:go1 rd P N p none c Q s) (hs:stp c=true:=by rfl) (ho:okc c=true:=by kernel_rfl):PWPr rd P N p c Q s:=go1_ok ho h
theorem pC {B:Nat} {ex:List Nat} {c:Code} (h:go1 rd P N p (some (B,ex)) c Q s) (hs:stp c=true:=by rfl) (ho:okc c=true:=by kernel_rfl) (_:CutB B ex:=by assumption):PWPr rd P N p c Q s:=go1_ok ho h
theorem pQ {id:Nat} {l:List Oper} (h:qops P N p l.toArray l s (fun s'=>Q .normal s')) (hm:P.follows .mixedOrders=true:=by kernel_rfl) (hB:Region.lexB .any l.toArray=true:=by kernel_rfl) (hp:plains l=true:=by kernel_rfl):PWPr rd P N p (.region id l.toArray true) Q s:=pwp_quiet hm hB h hp
theorem pQC {B:Nat} {ex:List Nat} {id:Nat} {l:List Oper} (h:qops P N p l.toArray l (cutS B ex s) (fun s'=>Q .normal s')) (hm:P.follows .mixedOrders=true:=by kernel_rfl) (hB:Region.lexB .any l.toArray=true:=by kernel_rfl) (hp:plains l=true:=by kernel_rfl) (_:CutB B ex:=by assumption):PWPr rd P N p (.region id l.toArray true) Q s:=pwp_cut B ex (pwp_quiet hm hB h hp)
theorem pU {c:Code} (h:PWPr rd P N p c Q s) (hk:Kontr rd P N p c Q K:=by assumption):K s:=Kont.use hk h
theorem pN {c X:Prop} (h:c) (hn:¬ c:=by intro h;(try simp only [cN] at h);first|contradiction|omega|exact cT h (by assumption)|exact cF h (by assumption)):X:=(hn h).elim
theorem plc {f:Operand} {args:Array Operand} {tys:Array TypeId} {g:FuncId} {ds:List D} {cap:List Nat} (ks:List Nat) {args':List PV} {os':List Ob} {R:PV → List Ob → Prop}
  (hc:PCalls P g args' os' R) (hG:callG N ops s o false ks (callArgs s ds args.toList cap) args' os')
  (hK:∀ r os'',R r os'' → pops P N p ops rest (S.put ⟨s.t,putBack (rho ks s.o.length) s.o ks os''⟩ o.dst (r.ren (rho ks s.o.length))) K)
  (ho:o.op = .call ⟨.value f,args,tys⟩:=by rfl) (hf:s.ev f=some (.c (.fn (.func g) ds cap)):=by rfl) (hb:bodyOk P g=true:=by kernel_rfl):PL P N p ops (o :: rest) s K :=
 pl_call2 false ks ho hf hb hc hG nofun fun r os'' h=>pl_of_pops (hK r os'' h)
theorem pas (l:List Nat) (h:paAll P N p ops fuel listed s K l) (hr:Region.ready .any ops listed=l:=by decide +kernel) (hl:l.isEmpty=false:=by rfl):PA P N p ops (fuel+1) listed s K:=pa_step l hr hl h
theorem pah (i:Nat) (h:hoG P N p ops fuel listed s K i ops[i]?) (hB:(Region.noSelect ops && (Region.ready .any ops listed).contains i && Region.free .any ops listed i && freeAt ops i)=true:=by decide +kernel):PA P N p ops (fuel+1) listed s K:=pa_hoist i hB h
theorem pad (h:K s) (hr:Region.ready .any ops listed=[]:=by decide +kernel):PA P N p ops fuel listed s K:=pa_done hr h
theorem paw {s':S} (h:PA P N p ops fuel listed s' K) (hw:Weak N p s s'):PA P N p ops fuel listed s K:=pa_weak hw h
end
end Go.Proofs.YthhfpcbpiphfiaaGreatDoor
