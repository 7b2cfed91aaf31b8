/- What the program computes, and the plain laws of it, part 16. -/
import Derived.Test.YthhfpcbpiphfiaaProg
import Derived.Test.YthhfpcbpiphfiaaRows
import Derived.Lib.SplitLaws
import Derived.Lib.IndexBytes
import Derived.Lib.ReplaceLaws
import Derived.Test.YthhfpcbpiphfiaaR13
namespace Go.Proofs.Ythhfpcbpiphfiaa
open Go.RowKit
theorem tab3:szOf Try.prog 3=some 1∧aggOf Try.prog 3=some false∧bytOf Try.prog 3=some 8∧zerOf Try.prog 3=some [.v (.int .i64 0)]∧zvOf Try.prog 3=some (.c (.v (.int .i64 0)))∧intOf? Try.prog 3=some .i64:=by and_intros<;>kernel_rfl
theorem tab4:szOf Try.prog 4=some 1∧aggOf Try.prog 4=some false∧bytOf Try.prog 4=some 1∧zerOf Try.prog 4=some [.v (.bool false)]∧zvOf Try.prog 4=some (.c (.v (.bool false)))∧isBool Try.prog 4=true:=by and_intros<;>kernel_rfl
theorem tab5:szOf Try.prog 5=some 1∧aggOf Try.prog 5=some false∧bytOf Try.prog 5=some 1∧zerOf Try.prog 5=some [.v (.int .u8 0)]∧zvOf Try.prog 5=some (.c (.v (.int .u8 0)))∧intOf? Try.prog 5=some .u8:=by and_intros<;>kernel_rfl
theorem tab9:szOf Try.prog 9=some 1∧aggOf Try.prog 9=some false∧bytOf Try.prog 9=some 16∧zerOf Try.prog 9=some [.v (.string ⟨#[]⟩)]∧zvOf Try.prog 9=some (.c (.v (.string ⟨#[]⟩)))∧isStr Try.prog 9=true:=by and_intros<;>kernel_rfl
theorem tab22:szOf Try.prog 22=some 1∧aggOf Try.prog 22=some false∧bytOf Try.prog 22=some 24∧zerOf Try.prog 22=some [.v (.slice none 0 0)]∧zvOf Try.prog 22=some (.c (.v (.slice none 0 0)))∧isSl Try.prog 22=true∧elOf Try.prog 22=some (3,1)∧isBytes Try.prog 22=false:=by and_intros<;>kernel_rfl
theorem tab26:szOf Try.prog 26=some 2∧aggOf Try.prog 26=some true∧bytOf Try.prog 26=some 32∧zerOf Try.prog 26=some [.v (.slice none 0 0),.v (.int .i64 0)]∧zvOf Try.prog 26=some (.agg [.v (.slice none 0 0),.v (.int .i64 0)])∧fldOf Try.prog 26 0=some (0,22)∧fldOf Try.prog 26 1=some (1,3)∧plcOf Try.prog 26=some [(0,1),(1,1)]:=by and_intros<;>kernel_rfl
theorem tab27:szOf Try.prog 27=some 1∧aggOf Try.prog 27=some false∧bytOf Try.prog 27=some 24∧zerOf Try.prog 27=some [.v (.slice none 0 0)]∧zvOf Try.prog 27=some (.c (.v (.slice none 0 0)))∧isSl Try.prog 27=true∧elOf Try.prog 27=some (46,6)∧isBytes Try.prog 27=false:=by and_intros<;>kernel_rfl
theorem tab28:szOf Try.prog 28=some 1∧aggOf Try.prog 28=some false∧bytOf Try.prog 28=some 24∧zerOf Try.prog 28=some [.v (.slice none 0 0)]∧zvOf Try.prog 28=some (.c (.v (.slice none 0 0)))∧isSl Try.prog 28=true∧elOf Try.prog 28=some (9,1)∧isBytes Try.prog 28=false:=by and_intros<;>kernel_rfl
theorem tab29:szOf Try.prog 29=some 1∧aggOf Try.prog 29=some false∧bytOf Try.prog 29=some 24∧zerOf Try.prog 29=some [.v (.slice none 0 0)]∧zvOf Try.prog 29=some (.c (.v (.slice none 0 0)))∧isSl Try.prog 29=true∧elOf Try.prog 29=some (42,2)∧isBytes Try.prog 29=false:=by and_intros<;>kernel_rfl
theorem tab31:szOf Try.prog 31=some 5∧aggOf Try.prog 31=some true∧bytOf Try.prog 31=some 120∧zerOf Try.prog 31=some [.v (.slice none 0 0),.v (.slice none 0 0),.v (.slice none 0 0),.v (.slice none 0 0),.v (.slice none 0 0)]∧zvOf Try.prog 31=some (.agg [.v (.slice none 0 0),.v (.slice none 0 0),.v (.slice none 0 0),.v (.slice none 0 0),.v (.slice none 0 0)])∧fldOf Try.prog 31 0=some (0,27)∧fldOf Try.prog 31 1=some (1,28)∧fldOf Try.prog 31 2=some (2,28)∧fldOf Try.prog 31 3=some (3,28)∧fldOf Try.prog 31 4=some (4,29)∧plcOf Try.prog 31=some [(0,1),(1,1),(2,1),(3,1),(4,1)]:=by and_intros<;>kernel_rfl
theorem tab42:szOf Try.prog 42=some 2∧aggOf Try.prog 42=some true∧bytOf Try.prog 42=some 32∧zerOf Try.prog 42=some [.v (.string ⟨#[]⟩),.v (.string ⟨#[]⟩)]∧zvOf Try.prog 42=some (.agg [.v (.string ⟨#[]⟩),.v (.string ⟨#[]⟩)])∧fldOf Try.prog 42 0=some (0,9)∧fldOf Try.prog 42 1=some (1,9)∧plcOf Try.prog 42=some [(0,1),(1,1)]∧eqKinds Try.prog 42=some [.str,.str]:=by and_intros<;>kernel_rfl
theorem tab46:szOf Try.prog 46=some 6∧aggOf Try.prog 46=some true∧bytOf Try.prog 46=some 120∧zerOf Try.prog 46=some [.v (.string ⟨#[]⟩),.v (.slice none 0 0),.v (.slice none 0 0),.v (.slice none 0 0),.v (.slice none 0 0),.v (.bool false)]∧zvOf Try.prog 46=some (.agg [.v (.string ⟨#[]⟩),.v (.slice none 0 0),.v (.slice none 0 0),.v (.slice none 0 0),.v (.slice none 0 0),.v (.bool false)])∧fldOf Try.prog 46 0=some (0,9)∧fldOf Try.prog 46 1=some (1,28)∧fldOf Try.prog 46 2=some (2,28)∧fldOf Try.prog 46 3=some (3,28)∧fldOf Try.prog 46 4=some (4,28)∧fldOf Try.prog 46 5=some (5,4)∧plcOf Try.prog 46=some [(0,1),(1,1),(2,1),(3,1),(4,1),(5,1)]:=by and_intros<;>kernel_rfl
theorem tab55:szOf Try.prog 55=some 1∧aggOf Try.prog 55=some false∧bytOf Try.prog 55=some 8∧zerOf Try.prog 55=some [.v (.map none)]∧zvOf Try.prog 55=some (.c (.v (.map none)))∧mpOf Try.prog 55=some (none,58):=by and_intros<;>kernel_rfl
theorem tab57:szOf Try.prog 57=some 1∧aggOf Try.prog 57=some true∧bytOf Try.prog 57=some 8∧zerOf Try.prog 57=some [.v (.map none)]∧zvOf Try.prog 57=some (.agg [.v (.map none)])∧fldOf Try.prog 57 0=some (0,55)∧plcOf Try.prog 57=some [(0,1)]:=by and_intros<;>kernel_rfl
theorem tab58:szOf Try.prog 58=some 1∧aggOf Try.prog 58=some false∧bytOf Try.prog 58=some 24∧zerOf Try.prog 58=some [.v (.slice none 0 0)]∧zvOf Try.prog 58=some (.c (.v (.slice none 0 0)))∧isSl Try.prog 58=true∧elOf Try.prog 58=some (61,2)∧isBytes Try.prog 58=false:=by and_intros<;>kernel_rfl
theorem tab61:szOf Try.prog 61=some 2∧aggOf Try.prog 61=some true∧bytOf Try.prog 61=some 32∧zerOf Try.prog 61=some [.v (.string ⟨#[]⟩),.v (.string ⟨#[]⟩)]∧zvOf Try.prog 61=some (.agg [.v (.string ⟨#[]⟩),.v (.string ⟨#[]⟩)])∧fldOf Try.prog 61 0=some (0,9)∧fldOf Try.prog 61 1=some (1,9)∧plcOf Try.prog 61=some [(0,1),(1,1)]∧eqKinds Try.prog 61=some [.str,.str]:=by and_intros<;>kernel_rfl
theorem tab69:szOf Try.prog 69=some 1∧aggOf Try.prog 69=some false∧bytOf Try.prog 69=some 24∧zerOf Try.prog 69=some [.v (.slice none 0 0)]∧zvOf Try.prog 69=some (.c (.v (.slice none 0 0)))∧isSl Try.prog 69=true∧elOf Try.prog 69=some (72,1)∧isBytes Try.prog 69=false:=by and_intros<;>kernel_rfl
theorem tab72:szOf Try.prog 72=some 1∧aggOf Try.prog 72=some false∧bytOf Try.prog 72=some 24∧zerOf Try.prog 72=some [.v (.slice none 0 0)]∧zvOf Try.prog 72=some (.c (.v (.slice none 0 0)))∧isSl Try.prog 72=true∧elOf Try.prog 72=some (92,129)∧isBytes Try.prog 72=false:=by and_intros<;>kernel_rfl
theorem tab77:szOf Try.prog 77=some 1∧aggOf Try.prog 77=some false∧bytOf Try.prog 77=some 8∧zerOf Try.prog 77=some [.v (.map none)]∧zvOf Try.prog 77=some (.c (.v (.map none)))∧mpOf Try.prog 77=some (none,4):=by and_intros<;>kernel_rfl
theorem tab86:szOf Try.prog 86=some 2∧aggOf Try.prog 86=some true∧bytOf Try.prog 86=some 24∧zerOf Try.prog 86=some [.v (.string ⟨#[]⟩),.v (.int .i64 0)]∧zvOf Try.prog 86=some (.agg [.v (.string ⟨#[]⟩),.v (.int .i64 0)])∧fldOf Try.prog 86 0=some (0,9)∧fldOf Try.prog 86 1=some (1,3)∧plcOf Try.prog 86=some [(0,1),(1,1)]∧eqKinds Try.prog 86=some [.str,.int]:=by and_intros<;>kernel_rfl
theorem tab90:szOf Try.prog 90=some 127∧aggOf Try.prog 90=some true∧bytOf Try.prog 90=some 127∧zerOf Try.prog 90=some (List.replicate 127 (.v (.bool false)))∧arrOf Try.prog 90=some (127,1)∧plcOf Try.prog 90=none:=by and_intros<;>kernel_rfl
theorem tab92:szOf Try.prog 92=some 129∧aggOf Try.prog 92=some true∧bytOf Try.prog 92=some 129∧fldOf Try.prog 92 0=some (0,5)∧fldOf Try.prog 92 1=some (1,4)∧fldOf Try.prog 92 2=some (2,90)∧plcOf Try.prog 92=some [(0,1),(1,1),(2,127)]:=by and_intros<;>kernel_rfl
theorem tab94:szOf Try.prog 94=some 1∧aggOf Try.prog 94=some false∧bytOf Try.prog 94=some 8∧zerOf Try.prog 94=some [.v (.map none)]∧zvOf Try.prog 94=some (.c (.v (.map none))):=by and_intros<;>kernel_rfl
theorem tab96:szOf Try.prog 96=some 3∧aggOf Try.prog 96=some true∧bytOf Try.prog 96=some 56∧zerOf Try.prog 96=some [.v (.slice none 0 0),.v (.slice none 0 0),.v (.map none)]∧zvOf Try.prog 96=some (.agg [.v (.slice none 0 0),.v (.slice none 0 0),.v (.map none)])∧fldOf Try.prog 96 0=some (0,69)∧fldOf Try.prog 96 1=some (1,69)∧fldOf Try.prog 96 2=some (2,94)∧plcOf Try.prog 96=some [(0,1),(1,1),(2,1)]:=by and_intros<;>kernel_rfl
theorem tab97:szOf Try.prog 97=some 1∧aggOf Try.prog 97=some false∧bytOf Try.prog 97=some 24∧zerOf Try.prog 97=some [.v (.slice none 0 0)]∧zvOf Try.prog 97=some (.c (.v (.slice none 0 0)))∧isSl Try.prog 97=true∧elOf Try.prog 97=some (101,4)∧isBytes Try.prog 97=false:=by and_intros<;>kernel_rfl
theorem tab99:szOf Try.prog 99=some 2∧aggOf Try.prog 99=some true∧bytOf Try.prog 99=some 16∧zerOf Try.prog 99=some [.v (.int .i64 0),.v (.int .i64 0)]∧zvOf Try.prog 99=some (.agg [.v (.int .i64 0),.v (.int .i64 0)])∧fldOf Try.prog 99 0=some (0,3)∧fldOf Try.prog 99 1=some (1,3)∧plcOf Try.prog 99=some [(0,1),(1,1)]∧eqKinds Try.prog 99=some [.int,.int]:=by and_intros<;>kernel_rfl
theorem tab101:szOf Try.prog 101=some 4∧aggOf Try.prog 101=some true∧bytOf Try.prog 101=some 32∧zerOf Try.prog 101=some [.v (.int .i64 0),.v (.int .i64 0),.v (.int .i64 0),.v (.int .i64 0)]∧zvOf Try.prog 101=some (.agg [.v (.int .i64 0),.v (.int .i64 0),.v (.int .i64 0),.v (.int .i64 0)])∧fldOf Try.prog 101 0=some (0,99)∧fldOf Try.prog 101 1=some (2,99)∧plcOf Try.prog 101=some [(0,2),(2,2)]∧eqKinds Try.prog 101=some [.int,.int,.int,.int]:=by and_intros<;>kernel_rfl
theorem tab103:szOf Try.prog 103=some 1∧aggOf Try.prog 103=some false∧bytOf Try.prog 103=some 24∧zerOf Try.prog 103=some [.v (.slice none 0 0)]∧zvOf Try.prog 103=some (.c (.v (.slice none 0 0)))∧isSl Try.prog 103=true∧elOf Try.prog 103=some (5,1)∧isBytes Try.prog 103=true:=by and_intros<;>kernel_rfl
theorem tab108:szOf Try.prog 108=some 1∧aggOf Try.prog 108=some false∧bytOf Try.prog 108=some 24∧zerOf Try.prog 108=some [.v (.slice none 0 0)]∧zvOf Try.prog 108=some (.c (.v (.slice none 0 0)))∧isSl Try.prog 108=true∧elOf Try.prog 108=some (115,1)∧isBytes Try.prog 108=false:=by and_intros<;>kernel_rfl
theorem tab115:szOf Try.prog 115=some 1∧aggOf Try.prog 115=some false∧bytOf Try.prog 115=some 24∧zerOf Try.prog 115=some [.v (.slice none 0 0)]∧zvOf Try.prog 115=some (.c (.v (.slice none 0 0)))∧isSl Try.prog 115=true∧elOf Try.prog 115=some (143,130)∧isBytes Try.prog 115=false:=by and_intros<;>kernel_rfl
theorem tab141:szOf Try.prog 141=some 128∧aggOf Try.prog 141=some true∧bytOf Try.prog 141=some 128∧zerOf Try.prog 141=some (List.replicate 128 (.v (.bool false)))∧arrOf Try.prog 141=some (128,1)∧plcOf Try.prog 141=none:=by and_intros<;>kernel_rfl
theorem tab143:szOf Try.prog 143=some 130∧aggOf Try.prog 143=some true∧bytOf Try.prog 143=some 130∧zerOf Try.prog 143=some (List.replicate 130 (.v (.bool false)))∧fldOf Try.prog 143 0=some (0,4)∧fldOf Try.prog 143 1=some (1,4)∧fldOf Try.prog 143 2=some (2,141)∧plcOf Try.prog 143=some [(0,1),(1,1),(2,128)]:=by and_intros<;>kernel_rfl
theorem tab147:szOf Try.prog 147=some 1∧aggOf Try.prog 147=some false∧bytOf Try.prog 147=some 24∧zerOf Try.prog 147=some [.v (.slice none 0 0)]∧zvOf Try.prog 147=some (.c (.v (.slice none 0 0)))∧isSl Try.prog 147=true∧elOf Try.prog 147=some (4,1)∧isBytes Try.prog 147=false:=by and_intros<;>kernel_rfl
attribute [push_cast] tab3 tab4 tab5 tab9 tab22 tab26 tab27 tab28 tab29 tab31 tab42 tab46 tab55 tab57 tab58 tab61 tab69 tab72 tab77 tab86 tab90 tab92 tab94 tab96 tab97 tab99 tab101 tab103 tab108 tab115 tab141 tab143 tab147
end Go.Proofs.Ythhfpcbpiphfiaa
namespace Go.Proofs.Ythhfpcbpiphfiaa
attribute [local irreducible] PL QL PWPr PCalls Weak RetK Kontr
open Go.RowKit
open IntWalk renaming iteOmega → iO, toNatUp → tN
set_option linter.unusedVariables false
set_option linter.unusedSimpArgs false
set_option maxRecDepth 20000
theorem fold_pure (v n:Int) (hv : -9223372036854775808≤v) (hv':v≤9223372036854775807) (hn:n≤9223372036854775807) :
  PCalls Try.prog 31 [.c (.v (.int .i64 v)),.c (.v (.int .i64 n))] [] fun r os=>r = .c (.v (.int .i64 (fold v n)))∧os=[]:=by
 have hlo:=Int.lt_tmod_of_pos v (b:=n)
 have hhi:=Int.tmod_lt_of_pos v (b:=n)
 refine pcalls_of Try.func31 rfl (by simp [Try.ntmps31]) ?_
 rw [Try.ntmps31,Try.results31]
 push_cast [iO,tN]
 by_cases h1:n≤1
 ·repeat' (first|((first|refine pG ?_|refine pQ ?_|refine pU ?_);push_cast [iO,tN])|(refine pif (fun h=>?_) (fun h=>?_)<;>first|exact pN h|push_cast [iO,tN]))
  (refine retK_of [] ?_;push_cast [iO,tN])
  simp [fold,h1]
 ·by_cases h0:0≤v
  ·have he:=Int.tmod_eq_emod_of_nonneg h0 (b:=n)
   have hb:=Int.emod_nonneg v (b:=n) (by omega)
   repeat' (first|((first|refine pG ?_|refine pQ ?_|refine pU ?_);push_cast [iO,tN])|(refine pif (fun h=>?_) (fun h=>?_)<;>first|exact pN h|push_cast [iO,tN]))
   (refine retK_of [] ?_;push_cast [iO,tN])
   simp only [fold,if_neg h1,he]
   rw [if_neg (by omega)]
  ·by_cases h2:v.tmod n < 0
   ·repeat' (first|((first|refine pG ?_|refine pQ ?_|refine pU ?_);push_cast [iO,tN])|(refine pif (fun h=>?_) (fun h=>?_)<;>first|exact pN h|push_cast [iO,tN]))
    (refine retK_of [] ?_;push_cast [iO,tN])
    simp [fold,h1,h2]
   ·repeat' (first|((first|refine pG ?_|refine pQ ?_|refine pU ?_);push_cast [iO,tN])|(refine pif (fun h=>?_) (fun h=>?_)<;>first|exact pN h|push_cast [iO,tN]))
    (refine retK_of [] ?_;push_cast [iO,tN])
    simp [fold,h1,h2]
def tape (L:List Int) (k:Nat):Ob:=.box 26 [.sl 1 (L.map fun x=>[D.v (.int .i64 x)]),.v (.int .i64 k)]
attribute [push_cast] tape
theorem next_pure (L:List Int) (k:Nat) (n:Int) (hk:k < 1000000) (hn:n≤9223372036854775807) (hL:∀ x ∈ L,-9223372036854775808≤x∧x≤9223372036854775807) (hl:L.length≤9223372036854775807) :
  PCalls Try.prog 19 [.c (.ptr 0 0),.c (.v (.int .i64 n))] [tape L k] fun r os=>r = .c (.v (.int .i64 (fold (tapeAt L k) n)))∧os=[tape L (k+1)]:=by
 refine pcalls_of Try.func19 rfl (by simp [Try.ntmps19]) ?_
 rw [Try.ntmps19,Try.results19]
 push_cast [iO,tN]
 by_cases hlt:k < L.length
 ·have hx:=hL (L.getD k default) (by rw [getD_lt L hlt];exact List.getElem_mem _)
  repeat' (first |  (refine plc [] (fold_pure (L.getD k default) n (by omega) (by omega) hn) ?_ ?_;push_cast [iO,tN];rintro r os ⟨rfl,rfl⟩;push_cast [iO,tN])  | ((first|refine pG ?_|refine pQ ?_|refine pU ?_);push_cast [iO,tN])|(refine pif (fun h=>?_) (fun h=>?_)<;>first|exact pN h|push_cast [iO,tN]))
  (refine retK_of [0] ?_;push_cast [iO,tN])
  simp [tapeAt,hlt]
 ·repeat' (first |  (refine plc [] (fold_pure ((k:Int) * 7 % 11) n (by omega) (by omega) hn) ?_ ?_;push_cast [iO,tN];rintro r os ⟨rfl,rfl⟩;push_cast [iO,tN])  | ((first|refine pG ?_|refine pQ ?_|refine pU ?_);push_cast [iO,tN])|(refine pif (fun h=>?_) (fun h=>?_)<;>first|exact pN h|push_cast [iO,tN]))
  (refine retK_of [0] ?_;push_cast [iO,tN])
  simp [tapeAt,hlt]
def strD (s:ByteArray):List D:=[.v (.string s)]
attribute [push_cast] strD
def pick (L:List Int) (k:Nat) (l:List ByteArray):ByteArray:=l.getD (fold (tapeAt L k) l.length).toNat default
theorem fold_bds (v n:Int) (hn:0 < n):0≤fold v n∧fold v n < n:=by
 unfold fold
 have:=Int.lt_tmod_of_pos v (b:=n) hn
 have:=Int.tmod_lt_of_pos v (b:=n) hn
 split
 ·omega
 ·split<;>omega
theorem one_pure (L:List Int) (k:Nat) (l:List ByteArray) (hk:k < 1000000) (h0:0 < l.length) (hn:l.length≤1000000) (hL:∀ x ∈ L,-9223372036854775808≤x∧x≤9223372036854775807) (hl:L.length≤9223372036854775807) :
  PCalls Try.prog 15 [.c (.ptr 0 0),.c (.sl 1 (l.map strD))] [tape L k] fun r os=>r = .c (.v (.string (pick L k l)))∧os=[tape L (k+1)]:=by
 refine pcalls_of Try.func15 rfl (by simp [Try.ntmps15]) ?_
 rw [Try.ntmps15,Try.results15]
 obtain ⟨hb,hb'⟩:=fold_bds (tapeAt L k) l.length (by omega)
 push_cast [iO,tN]
 repeat' (first |  (refine plc [0] (next_pure L k l.length hk (by omega) hL hl) ?_ ?_;push_cast [iO,tN];rintro r os ⟨rfl,rfl⟩;push_cast [iO,tN])  | ((first|refine pG ?_|refine pQ ?_|refine pU ?_);push_cast [iO,tN])|(refine pif (fun h=>?_) (fun h=>?_)<;>first|exact pN h|push_cast [iO,tN]))
 (refine retK_of [0] ?_;push_cast [iO,tN])
 simp [pick,List.getD]
end Go.Proofs.Ythhfpcbpiphfiaa
namespace Go.Proofs.Ythhfpcbpiphfiaa
open Go.RowKit
open IntWalk renaming iteOmega → iO, toNatUp → tN
set_option linter.unusedVariables false
set_option linter.unusedSimpArgs false
structure El where
 lit:Nat
 star:Bool
 set:List Bool
 deriving DecidableEq,Inhabited
def El.has (e:El) (b:UInt8):Bool:=e.set.getD b.toNat false
def anyTail (f:List UInt8 → Bool):List UInt8 → Bool
 | []=>f []
 | b :: s=>f (b :: s) || anyTail f s
def oneHead (e:El) (f:List UInt8 → Bool):List UInt8 → Bool
 | []=>false
 | b :: s=>e.has b && f s
def mat:List El → List UInt8 → Bool
 | [],s=>s.isEmpty
 | e :: l,s=>if e.star then anyTail (mat l) s else oneHead e (mat l) s
theorem anyTail_iff (f:List UInt8 → Bool):∀ s:List UInt8,anyTail f s=true ↔ ∃ j,j≤s.length∧f (s.drop j)=true
 | []=>by
  constructor
  ·intro h;exact ⟨0,Nat.le_refl _,h⟩
  ·rintro ⟨j,hj,h⟩
   have:j=0:=by simpa using hj
   subst this;exact h
 | b :: s=>by
  rw [anyTail,Bool.or_eq_true,anyTail_iff f s]
  constructor
  ·rintro (h|⟨j,hj,h⟩)
   ·exact ⟨0,Nat.zero_le _,h⟩
   ·exact ⟨j+1,by simp only [List.length_cons];omega,by simpa using h⟩
  ·rintro ⟨j,hj,h⟩
   cases j with
   | zero=>exact .inl h
   | succ j=>exact .inr ⟨j,by simp only [List.length_cons] at hj;omega,by simpa using h⟩
theorem mat_star {e:El} {l:List El} {s:List UInt8} (he:e.star=true):mat (e :: l) s=true ↔ ∃ j,j≤s.length∧mat l (s.drop j)=true:=by
 rw [mat,if_pos he,anyTail_iff]
theorem mat_one {e:El} {l:List El} {b:UInt8} {s:List UInt8} (he:e.star=false):mat (e :: l) (b :: s)=(e.has b && mat l s):=by
 rw [mat,if_neg (by simp [he]),oneHead]
theorem mat_end {e:El} {l:List El} (he:e.star=false):mat (e :: l) []=false:=by
 rw [mat,if_neg (by simp [he]),oneHead]
theorem mat_pre:∀ {p r:List El} {t:List UInt8},(∀ e ∈ p,e.star=false) → mat (p++r) t=true → p.length≤t.length∧mat r (t.drop p.length)=true
 | [],r,t,_,h=>⟨Nat.zero_le _,by simpa using h⟩
 | e :: p,r,[],hp,h=>by rw [List.cons_append,mat_end (hp e (by simp))] at h;cases h
 | e :: p,r,b :: t,hp,h=>by
  rw [List.cons_append,mat_one (hp e (by simp)),Bool.and_eq_true] at h
  have ih:=mat_pre (fun x hx=>hp x (by simp [hx])) h.2
  exact ⟨by simp only [List.length_cons];omega,by simpa using ih.2⟩
structure Way (l:List El) (s:List UInt8) (at_ i st f:Nat):Prop where
 hat:at_≤l.length
 hi:i≤s.length
 hf:f≤i
 hst:st≤at_
 h0:st=0 → (mat l s=true ↔ mat (l.drop at_) (s.drop i)=true)
 h1:0 < st → i - f=at_ - st∧(∀ e ∈ (l.drop st).take (at_ - st),e.star=false)∧(mat l s=true ↔ (mat (l.drop at_) (s.drop i)=true∨∃ j,f < j∧j≤s.length∧mat (l.drop st) (s.drop j)=true))
theorem Way.start (l:List El) (s:List UInt8):Way l s 0 0 0 0:=⟨Nat.zero_le _,Nat.zero_le _,Nat.le_refl _,Nat.le_refl _,fun _=>by simp,fun h=>absurd h (by omega)⟩
theorem drop_at {l:List El} {k:Nat} (h:k < l.length):l.drop k=l[k] :: l.drop (k+1):=List.drop_eq_getElem_cons h
theorem drop_byte {s:List UInt8} {k:Nat} (h:k < s.length):s.drop k=s[k] :: s.drop (k+1):=List.drop_eq_getElem_cons h
theorem Way.star {l:List El} {s:List UInt8} {at_ i st f:Nat} (w:Way l s at_ i st f) (h:at_ < l.length) (hs:l[at_].star=true):Way l s (at_+1) i (at_+1) i:=by
 refine ⟨by omega,w.hi,Nat.le_refl _,Nat.le_refl _,fun h=>by omega,fun _=>⟨by omega,by simp,?_⟩⟩
 have e1:mat (l.drop at_) (s.drop i)=true ↔ (mat (l.drop (at_+1)) (s.drop i)=true∨∃ j,i < j∧j≤s.length∧mat (l.drop (at_+1)) (s.drop j)=true):=by
  rw [drop_at h,mat_star hs]
  constructor
  ·rintro ⟨j,hj,hm⟩
   rw [List.drop_drop] at hm
   rw [List.length_drop] at hj
   cases j with
   | zero=>exact .inl (by simpa using hm)
   | succ j=>exact .inr ⟨i+(j+1),by omega,by have:=w.hi;omega,hm⟩
  ·rintro (hm|⟨j,h1,h2,hm⟩)
   ·exact ⟨0,Nat.zero_le _,by simpa using hm⟩
   ·exact ⟨j - i,by rw [List.length_drop];omega,by rw [List.drop_drop];rwa [show i+(j - i)=j by omega]⟩
 by_cases h0:st=0
 ·rw [w.h0 h0,e1]
 ·obtain ⟨k1,k2,k3⟩:=w.h1 (by omega)
  rw [k3,e1]
  constructor
  ·rintro (hm|⟨j,h1,h2,hm⟩)
   ·exact hm
   ·right
    have hsp:l.drop st=(l.drop st).take (at_ - st)++l.drop at_:=by
     conv=>lhs;rw [← List.take_append_drop (at_ - st) (l.drop st)]
     rw [List.drop_drop,show st+(at_ - st)=at_ by have:=w.hst;omega]
    rw [hsp] at hm
    obtain ⟨m1,m2⟩:=mat_pre k2 hm
    have hlen:((l.drop st).take (at_ - st)).length=at_ - st:=by rw [List.length_take,List.length_drop];omega
    rw [hlen] at m1 m2
    rw [List.length_drop] at m1
    rw [List.drop_drop,drop_at h,mat_star hs] at m2
    obtain ⟨q,hq,hm2⟩:=m2
    rw [List.length_drop] at hq
    rw [List.drop_drop] at hm2
    have:=w.hf
    exact ⟨j+(at_ - st)+q,by omega,by omega,hm2⟩
  ·exact .inl
theorem Way.step {l:List El} {s:List UInt8} {at_ i st f:Nat} (w:Way l s at_ i st f) (h:at_ < l.length) (hi:i < s.length) (hs:l[at_].star=false) (hh:l[at_].has s[i]=true):Way l s (at_+1) (i+1) st f:=by
 have e1:mat (l.drop at_) (s.drop i)=mat (l.drop (at_+1)) (s.drop (i+1)):=by rw [drop_at h,drop_byte hi,mat_one hs,hh,Bool.true_and]
 refine ⟨by omega,by omega,by have:=w.hf;omega,by have:=w.hst;omega,fun h0=>by rw [w.h0 h0,e1],fun h0=>?_⟩
 obtain ⟨k1,k2,k3⟩:=w.h1 h0
 have hst:=w.hst
 have hf:=w.hf
 refine ⟨by omega,fun e he=>?_,by rw [k3,e1]⟩
 rw [show at_+1 - st=(at_ - st)+1 by omega,List.take_add_one,List.mem_append] at he
 rcases he with he|he
 ·exact k2 e he
 ·rw [List.getElem?_drop,show st+(at_ - st)=at_ by omega,List.getElem?_eq_getElem h] at he
  simp at he
  rw [he];exact hs
theorem Way.back {l:List El} {s:List UInt8} {at_ i st f:Nat} (w:Way l s at_ i st f) (hi:i < s.length) (h0:0 < st) (hno:mat (l.drop at_) (s.drop i)=false):Way l s st (f+1) st (f+1):=by
 obtain ⟨k1,k2,k3⟩:=w.h1 h0
 have hst:=w.hst
 have hf:=w.hf
 have hat:=w.hat
 refine ⟨by omega,by omega,Nat.le_refl _,Nat.le_refl _,fun h=>by omega,fun _=>⟨by omega,by simp,?_⟩⟩
 rw [k3,hno]
 constructor
 ·rintro (h|⟨j,h1,h2,hm⟩)
  ·cases h
  ·by_cases e:j=f+1
   ·subst e;exact .inl hm
   ·exact .inr ⟨j,by omega,h2,hm⟩
 ·rintro (hm|⟨j,h1,h2,hm⟩)
  ·exact .inr ⟨f+1,by omega,by omega,hm⟩
  ·exact .inr ⟨j,by omega,h2,hm⟩
theorem Way.none {l:List El} {s:List UInt8} {at_ i f:Nat} (w:Way l s at_ i 0 f) (hno:mat (l.drop at_) (s.drop i)=false):mat l s=false:=by
 have:=w.h0 rfl
 rw [hno] at this
 simpa using this
theorem Way.fin {l:List El} {s:List UInt8} {at_ st f:Nat} (w:Way l s at_ s.length st f):mat l s=mat (l.drop at_) []:=by
 have hst:=w.hst
 have hf:=w.hf
 have hat:=w.hat
 rw [Bool.eq_iff_iff]
 by_cases h0:st=0
 ·rw [w.h0 h0,List.drop_length]
 ·obtain ⟨k1,k2,k3⟩:=w.h1 (by omega)
  rw [k3,List.drop_length]
  constructor
  ·rintro (h|⟨j,h1,h2,hm⟩)
   ·exact h
   ·exfalso
    have hsp:l.drop st=(l.drop st).take (at_ - st)++l.drop at_:=by
     conv=>lhs;rw [← List.take_append_drop (at_ - st) (l.drop st)]
     rw [List.drop_drop,show st+(at_ - st)=at_ by omega]
    rw [hsp] at hm
    have m1:=(mat_pre k2 hm).1
    rw [List.length_take,List.length_drop,List.length_drop] at m1
    omega
  ·exact .inl
theorem mat_miss {l:List El} {s:List UInt8} {at_ i:Nat} (hi:i < s.length) (h:at_ < l.length → (∃ h:at_ < l.length,l[at_].star=false∧l[at_].has s[i]=false)):mat (l.drop at_) (s.drop i)=false:=by
 by_cases ha:at_ < l.length
 ·obtain ⟨_,h1,h2⟩:=h ha
  rw [drop_at ha,drop_byte hi,mat_one h1,h2];rfl
 ·rw [List.drop_eq_nil_of_le (by omega),drop_byte hi];rfl
theorem mat_stars:∀ l:List El,mat l []=l.all (·.star)
 | []=>rfl
 | e :: l=>by
  cases he:e.star with
  | true =>
   rw [List.all_cons,he,Bool.true_and,← mat_stars l,Bool.eq_iff_iff,mat_star he]
   constructor
   ·rintro ⟨j,_,h⟩;simpa using h
   ·intro h;exact ⟨0,Nat.le_refl _,by simpa using h⟩
  | false=>rw [mat_end he,List.all_cons,he];rfl
def wayM (L S at_ st f:Nat):Nat:=(L - st) * ((S+1) * (L+2))+(S - f) * (L+2)+(L - at_)
theorem mat_parts:∀ {l:List El} {s:List UInt8},mat l s=true ↔ ∃ ss:List (List UInt8),s=ss.flatten∧All2 (fun (e:El) (t:List UInt8)=>e.star=true∨∃ b,t=[b]∧e.has b=true) l ss
 | [],s=>by
  constructor
  ·intro h;exact ⟨[],by simpa [mat] using h,trivial⟩
  ·rintro ⟨ss,rfl,h⟩
   rw [All2.nil_l] at h
   subst h;rfl
 | e :: l,s=>by
  have ih:=fun s=>mat_parts (l:=l) (s:=s)
  cases he:e.star with
  | true =>
   rw [mat_star he]
   constructor
   ·rintro ⟨j,hj,h⟩
    obtain ⟨ss,h1,h2⟩:=(ih _).1 h
    exact ⟨s.take j :: ss,by rw [List.flatten_cons,← h1,List.take_append_drop],.inl he,h2⟩
   ·rintro ⟨ss,rfl,h⟩
    obtain ⟨t,ts,rfl,h1,h2⟩:=All2.cons_l.1 h
    refine ⟨t.length,by rw [List.flatten_cons,List.length_append];omega,?_⟩
    rw [List.flatten_cons,List.drop_left]
    exact (ih _).2 ⟨ts,rfl,h2⟩
  | false =>
   cases s with
   | nil =>
    rw [mat_end he]
    constructor
    ·intro h;cases h
    ·rintro ⟨ss,hs,h⟩
     obtain ⟨t,ts,rfl,h1,h2⟩:=All2.cons_l.1 h
     rcases h1 with h1|⟨b,rfl,_⟩
     ·rw [he] at h1;cases h1
     ·simp at hs
   | cons b s =>
    rw [mat_one he,Bool.and_eq_true,ih]
    constructor
    ·rintro ⟨hb,ss,rfl,h⟩
     exact ⟨[b] :: ss,rfl,.inr ⟨b,rfl,hb⟩,h⟩
    ·rintro ⟨ss,hs,h⟩
     obtain ⟨t,ts,rfl,h1,h2⟩:=All2.cons_l.1 h
     rcases h1 with h1|⟨b',rfl,hb⟩
     ·rw [he] at h1;cases h1
     ·rw [List.flatten_cons,List.singleton_append] at hs
      injection hs with e1 e2
      subst e1 e2
      exact ⟨hb,ts,rfl,h2⟩
theorem all2_snoc {α β:Type} {R:α → β → Prop} {l:List α} {a:α} {m:List β}:All2 R (l++[a]) m ↔ ∃ m' b,m=m'++[b]∧All2 R l m'∧R a b:=by
 constructor
 ·intro h
  obtain ⟨x,y,rfl,h1,h2⟩:=h.split
  obtain ⟨b,y',rfl,h3,h4⟩:=All2.cons_l.1 h2
  rw [All2.nil_l] at h4
  subst h4
  exact ⟨x,b,rfl,h1,h3⟩
 ·rintro ⟨m',b,rfl,h1,h2⟩
  exact h1.append ⟨h2,trivial⟩
theorem mat_snoc_star {l:List El} {e:El} {s:List UInt8} {b:UInt8} (he:e.star=true):mat (l++[e]) (s++[b])=(mat l (s++[b]) || mat (l++[e]) s):=by
 rw [Bool.eq_iff_iff,Bool.or_eq_true,mat_parts,mat_parts,mat_parts]
 constructor
 ·rintro ⟨ss,hs,h⟩
  obtain ⟨ms,t,rfl,h1,h2⟩:=all2_snoc.1 h
  rw [List.flatten_append,List.flatten_cons,List.flatten_nil,List.append_nil] at hs
  rcases List.eq_nil_or_concat t with rfl|⟨t',c,rfl⟩
  ·exact .inl ⟨ms,by simpa using hs,h1⟩
  ·right
   rw [List.concat_eq_append,← List.append_assoc] at hs
   obtain ⟨h3,_⟩:=List.append_inj' hs rfl
   exact ⟨ms++[t'],by rw [h3];simp,all2_snoc.2 ⟨ms,t',rfl,h1,.inl he⟩⟩
 ·rintro (⟨ss,hs,h⟩|⟨ss,hs,h⟩)
  ·exact ⟨ss++[[]],by rw [hs];simp,all2_snoc.2 ⟨ss,[],rfl,h,.inl he⟩⟩
  ·obtain ⟨ms,t,rfl,h1,h2⟩:=all2_snoc.1 h
   exact ⟨ms++[t++[b]],by rw [hs];simp,all2_snoc.2 ⟨ms,_,rfl,h1,.inl he⟩⟩
theorem mat_snoc_one {l:List El} {e:El} {s:List UInt8} {b:UInt8} (he:e.star=false):mat (l++[e]) (s++[b])=(mat l s && e.has b):=by
 rw [Bool.eq_iff_iff,Bool.and_eq_true,mat_parts,mat_parts]
 constructor
 ·rintro ⟨ss,hs,h⟩
  obtain ⟨ms,t,rfl,h1,h2⟩:=all2_snoc.1 h
  rcases h2 with h2|⟨c,rfl,hc⟩
  ·rw [he] at h2;cases h2
  ·rw [List.flatten_append,List.flatten_cons,List.flatten_nil,List.append_nil] at hs
   obtain ⟨h3,h4⟩:=List.append_inj' hs rfl
   injection h4 with h4
   subst h4
   exact ⟨⟨ms,h3,h1⟩,hc⟩
 ·rintro ⟨⟨ss,rfl,h⟩,hb⟩
  exact ⟨ss++[[b]],by simp,all2_snoc.2 ⟨ss,_,rfl,h,.inr ⟨b,rfl,hb⟩⟩⟩
theorem mat_snoc_nil {l:List El} {e:El}:mat (l++[e]) []=(mat l [] && e.star):=by
 rw [mat_stars,mat_stars,List.all_append];simp
def plusL (cs:List Bool) (t:List UInt8):List Bool:=t.foldl (fun cs b=>cs.set b.toNat true) cs
def spl:List UInt8 → List (List UInt8)
 | []=>[[]]
 | b :: l=>if b=47 then [] :: spl l else match spl l with
  | []=>[[b]]
  | h :: t=>(b :: h) :: t
def unT (l:List UInt8):ByteArray:=⟨l.toArray⟩
def parts (s:ByteArray):List ByteArray:=(spl s.data.toList).map unT
def textB (b:UInt8):Bool:=decide (32≤b.toNat) && decide (b.toNat≤126)
def textS (s:ByteArray):Bool:=s.data.toList.all textB && decide (s.size≤256)
theorem getD_byte {s:ByteArray} {k:Nat} (h:k < s.size):∃ h':k < s.data.toList.length,s.data.toList.getD k 0=s.data.toList[k]:=⟨h,by rw [List.getD_eq_getElem?_getD,List.getElem?_eq_getElem (show k < s.data.toList.length from h)];rfl⟩
theorem all_next {p:UInt8 → Bool} {s:ByteArray} {k:Nat} (h:k < s.size) (ha:(s.data.toList.take k).all p=true) (hp:p (s.data.toList.getD k 0)=true):(s.data.toList.take (k+1)).all p=true:=by
 obtain ⟨h',e⟩:=getD_byte h
 rw [List.take_succ_eq_append_getElem h',List.all_append,ha,← e,List.all_cons,hp];rfl
theorem all_not {p:UInt8 → Bool} {s:ByteArray} {k:Nat} (h:k < s.size) (hp:p (s.data.toList.getD k 0)=false):s.data.toList.all p=false:=by
 obtain ⟨h',e⟩:=getD_byte h
 exact List.all_eq_false.2 ⟨s.data.toList.getD k 0,by rw [e];exact List.getElem_mem _,by rw [hp];decide⟩
def byt (p:ByteArray) (i:Nat):UInt8:=p.data.toList.getD i 0
def fillN (cs:List Bool) (a:Nat):Nat → List Bool
 | 0=>cs
 | k+1=>(fillN cs a k).set (a+k) true
theorem fillN_len (cs:List Bool) (a:Nat):∀ n,(fillN cs a n).length=cs.length
 | 0=>rfl
 | n+1=>by rw [fillN,List.length_set,fillN_len cs a n]
theorem fillN_get (cs:List Bool) (a i:Nat):∀ n,(fillN cs a n).getD i false=(cs.getD i false || (decide (a≤i∧i < a+n) && decide (i < cs.length)))
 | 0=>by
  have:¬(a≤i∧i < a+0):=by omega
  rw [fillN,decide_eq_false this];simp
 | n+1=>by
  rw [fillN]
  by_cases h:a+n=i
  ·subst h
   by_cases hl:a+n < cs.length
   ·rw [List.getD_eq_getElem?_getD,List.getElem?_set_self (by rw [fillN_len];exact hl)]
    rw [decide_eq_true hl,decide_eq_true (by omega:a≤a+n∧a+n < a+(n+1))];simp
   ·have e:(fillN cs a n).set (a+n) true=fillN cs a n:=List.set_eq_of_length_le (by rw [fillN_len];omega)
    rw [e,fillN_get cs a (a+n) n,decide_eq_false hl];simp
  ·rw [List.getD_eq_getElem?_getD,List.getElem?_set_ne h,← List.getD_eq_getElem?_getD,fillN_get cs a i n]
   by_cases h2:a≤i∧i < a+n
   ·rw [decide_eq_true h2,decide_eq_true (by omega:a≤i∧i < a+(n+1))]
   ·rw [decide_eq_false h2,decide_eq_false (by omega:¬(a≤i∧i < a+(n+1)))]
def noneS:List Bool:=List.replicate 127 false
def everyL:List Bool:=fillN noneS 32 95
def rngQ (p:ByteArray) (i:Nat):Bool:=decide (i+2 < p.size) && (byt p (i+1) == 45) && (byt p (i+2) != 93)
def memTo (p:ByteArray) (i:Nat):UInt8:=if rngQ p i then byt p (i+2) else byt p i
def memAt (p:ByteArray) (i:Nat):Nat:=if rngQ p i then i+3 else i+1
def memS (p:ByteArray) (i:Nat) (cs:List Bool):List Bool:=fillN cs (byt p i).toNat ((memTo p i).toNat+1 - (byt p i).toNat)
theorem memAt_lt (p:ByteArray) (i:Nat):i < memAt p i:=by unfold memAt;split<;>omega
theorem memAt_le {p:ByteArray} {i:Nat} (h:i < p.size):memAt p i≤p.size:=by
 unfold memAt rngQ;split
 ·rename_i h2;simp only [Bool.and_eq_true,decide_eq_true_eq] at h2;omega
 ·omega
theorem memS_len (p:ByteArray) (i:Nat) (cs:List Bool):(memS p i cs).length=cs.length:=fillN_len _ _ _
def bsetGo (p:ByteArray) (i:Nat) (cs:List Bool):Option (List Bool × Nat) :=
 if h:p.size≤i then none
 else if byt p i=93 then some (cs,i)
 else if byt p i≤memTo p i then bsetGo p (memAt p i) (memS p i cs) else none
termination_by p.size - i
decreasing_by have:=memAt_lt p i;omega
def notN (cs:List Bool):Nat → List Bool
 | 0=>cs
 | k+1=>(notN cs k).set (32+k) (everyL.getD (32+k) false && !(notN cs k).getD (32+k) false)
theorem notN_len (cs:List Bool):∀ n,(notN cs n).length=cs.length
 | 0=>rfl
 | n+1=>by rw [notN,List.length_set,notN_len cs n]
def notS (cs:List Bool):List Bool:=notN cs 95
theorem everyL_get {k:Nat} (h:k < 95):everyL.getD (32+k) false=true:=by
 unfold everyL
 rw [fillN_get,decide_eq_true (by omega:32≤32+k∧32+k < 32+95),decide_eq_true (by show 32+k < 127;omega)]
 simp
theorem everyL_len:everyL.length=127:=by unfold everyL;rw [fillN_len];rfl
def notQ (p:ByteArray) (i:Nat):Bool:=decide (i < p.size) && (byt p i == 33)
def setJ (p:ByteArray) (i:Nat):Nat:=if notQ p i then i+1 else i
def bsetM (p:ByteArray) (i:Nat):Option (List Bool × Nat) :=
 if p.size≤setJ p i∨byt p (setJ p i)=93 then none
 else match bsetGo p (setJ p i) noneS with
  | none=>none
  | some r=>some (if notQ p i then notS r.1 else r.1,r.2+1)
theorem bsetGo_gt {p:ByteArray}:∀ {i:Nat} {cs:List Bool} {r:List Bool × Nat},bsetGo p i cs=some r → i≤r.2∧r.2 < p.size∧r.1.length=cs.length:=by
 intro i
 induction i using (measure fun i=>p.size - i).wf.induction with
 | _ i ih =>
  intro cs r h
  rw [bsetGo] at h
  split at h
  ·cases h
  ·rename_i h1
   split at h
   ·cases h;exact ⟨Nat.le_refl _,by omega,rfl⟩
   ·split at h
    ·have hm:=memAt_lt p i
     have:=ih (memAt p i) (by show p.size - memAt p i < p.size - i;omega) h
     rw [memS_len] at this
     exact ⟨by omega,this.2⟩
    ·cases h
theorem setJ_le (p:ByteArray) (i:Nat):i≤setJ p i:=by unfold setJ;split<;>omega
theorem bsetM_gt {p:ByteArray} {i:Nat} {r:List Bool × Nat} (h:bsetM p i=some r):i < r.2∧r.2≤p.size∧r.1.length=127:=by
 unfold bsetM at h
 split at h
 ·cases h
 ·cases hg:bsetGo p (setJ p i) noneS with
  | none=>rw [hg] at h;cases h
  | some q =>
   rw [hg] at h
   have:=bsetGo_gt hg
   have hj:=setJ_le p i
   cases h
   have hl:q.1.length=127:=by rw [this.2.2];rfl
   refine ⟨by show i < q.2+1;omega,by show q.2+1≤p.size;omega,?_⟩
   show (if notQ p i=true then notS q.1 else q.1).length=127
   split
   ·unfold notS;rw [notN_len];exact hl
   ·exact hl
def starEl:El:=⟨0,true,everyL⟩
def askEl:El:=⟨0,false,everyL⟩
def litEl (b:UInt8):El:=⟨b.toNat,false,noneS.set b.toNat true⟩
def altGo (p:ByteArray) (i:Nat) (l:List (List El)) (x:List El):Option (List (List El)) :=
 if h:p.size≤i then some (l++[x])
 else if byt p i=124 then altGo p (i+1) (l++[x]) []
 else if byt p i=42 then altGo p (i+1) l (x++[starEl])
 else if byt p i=63 then altGo p (i+1) l (x++[askEl])
 else if byt p i=91 then match hs:bsetM p (i+1) with
  | none=>none
  | some r=>altGo p r.2 l (x++[⟨0,false,r.1⟩])
 else altGo p (i+1) l (x++[litEl (byt p i)])
termination_by p.size - i
decreasing_by all_goals first|omega|(have:=bsetM_gt hs;omega)
def altsM (p:ByteArray):Option (List (List El)):=altGo p 0 [] []
def globM (p:ByteArray):Int:=if 256 < p.size then 21 else if !(p.data.toList.all textB) then 20 else match altsM p with|none=>20|some _=>0
def matchM (p s:ByteArray):Bool:=decide (globM p=0) && (s.data.toList.all textB) && match altsM p with|none=>false|some l=>l.any fun x=>mat x s.data.toList
theorem rp_vals {w:World} {Γ:G}:∀ {vs xs:List Value},All2 (RP w Γ) (vs.map fun v=>.c (.v v)) xs → xs=vs
 | [],_,h=>by rw [List.map_nil,All2.nil_l] at h;exact h
 | v :: vs,xs,h=>by
  rw [List.map_cons,All2.cons_l] at h
  obtain ⟨y,m,rfl,h1,h2⟩:=h
  rw [rp_vals h2,h1.1]
theorem ext_of_below {w w':World} (hB:Below w.heap.size w w'):Ext No w w':=⟨hB.os,hB.tape,hB.output,hB.size,fun k hk _=>hB.block k hk⟩
theorem pcalls_plain {P:Program} {g:FuncId} (vs:List Value) (v:Value) (hv:v.oneCell'=true) (h:∀ w,Pin w → Calls P g vs.toArray w fun e w'=>e = .returned v∧Below w.heap.size w w') :
  PCalls P g (vs.map fun v=>.c (.v v)) [] fun r os=>r = .c (.v v)∧os=[]:=fun Γ w xs hm hx=>by
 rw [rp_vals hx]
 refine (h w hm.pin.1).mono ?_
 rintro e w' ⟨rfl,hB⟩
 have hE:=ext_of_below hB
 exact ⟨_,[],Γ,_,rfl,⟨rfl,rfl⟩,⟨rfl,hv⟩,Nat.le_refl _,hm.same (Same.of_ext hE),ext_grow hE⟩
end Go.Proofs.Ythhfpcbpiphfiaa
