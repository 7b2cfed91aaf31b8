/- What the program computes, and the plain laws of it, part 15. -/
import Derived.Test.YtmbbkfffcflfcaaGreatDoorProg
import Derived.Test.YtmbbkfffcflfcaaGreatDoorRows
import Derived.Test.YtmbbkfffcflfcaaGreatDoorS14
namespace Go.Proofs.YtmbbkfffcflfcaaGreatDoor
open Go.RowKit
theorem tab3:szOf Tryz.prog 3=some 1∧aggOf Tryz.prog 3=some false∧bytOf Tryz.prog 3=some 8∧zerOf Tryz.prog 3=some [.v (.int .i64 0)]∧zvOf Tryz.prog 3=some (.c (.v (.int .i64 0)))∧intOf? Tryz.prog 3=some .i64:=by and_intros<;>kernel_rfl
theorem tab4:szOf Tryz.prog 4=some 1∧aggOf Tryz.prog 4=some false∧bytOf Tryz.prog 4=some 1∧zerOf Tryz.prog 4=some [.v (.bool false)]∧zvOf Tryz.prog 4=some (.c (.v (.bool false)))∧isBool Tryz.prog 4=true:=by and_intros<;>kernel_rfl
theorem tab5:szOf Tryz.prog 5=some 1∧aggOf Tryz.prog 5=some false∧bytOf Tryz.prog 5=some 1∧zerOf Tryz.prog 5=some [.v (.int .u8 0)]∧zvOf Tryz.prog 5=some (.c (.v (.int .u8 0)))∧intOf? Tryz.prog 5=some .u8:=by and_intros<;>kernel_rfl
theorem tab9:szOf Tryz.prog 9=some 1∧aggOf Tryz.prog 9=some false∧bytOf Tryz.prog 9=some 16∧zerOf Tryz.prog 9=some [.v (.string ⟨#[]⟩)]∧zvOf Tryz.prog 9=some (.c (.v (.string ⟨#[]⟩)))∧isStr Tryz.prog 9=true:=by and_intros<;>kernel_rfl
theorem tab22:szOf Tryz.prog 22=some 1∧aggOf Tryz.prog 22=some false∧bytOf Tryz.prog 22=some 24∧zerOf Tryz.prog 22=some [.v (.slice none 0 0)]∧zvOf Tryz.prog 22=some (.c (.v (.slice none 0 0)))∧isSl Tryz.prog 22=true∧elOf Tryz.prog 22=some (33,6)∧isBytes Tryz.prog 22=false:=by and_intros<;>kernel_rfl
theorem tab23:szOf Tryz.prog 23=some 1∧aggOf Tryz.prog 23=some false∧bytOf Tryz.prog 23=some 24∧zerOf Tryz.prog 23=some [.v (.slice none 0 0)]∧zvOf Tryz.prog 23=some (.c (.v (.slice none 0 0)))∧isSl Tryz.prog 23=true∧elOf Tryz.prog 23=some (3,1)∧isBytes Tryz.prog 23=false:=by and_intros<;>kernel_rfl
theorem tab25:szOf Tryz.prog 25=some 1∧aggOf Tryz.prog 25=some false∧bytOf Tryz.prog 25=some 8∧zerOf Tryz.prog 25=some [.v (.pointer none)]∧zvOf Tryz.prog 25=some (.c (.v (.pointer none))):=by and_intros<;>kernel_rfl
theorem tab27:szOf Tryz.prog 27=some 2∧aggOf Tryz.prog 27=some true∧bytOf Tryz.prog 27=some 32∧zerOf Tryz.prog 27=some [.v (.slice none 0 0),.v (.int .i64 0)]∧zvOf Tryz.prog 27=some (.agg [.v (.slice none 0 0),.v (.int .i64 0)])∧fldOf Tryz.prog 27 0=some (0,23)∧fldOf Tryz.prog 27 1=some (1,3)∧plcOf Tryz.prog 27=some [(0,1),(1,1)]:=by and_intros<;>kernel_rfl
theorem tab31:szOf Tryz.prog 31=some 1∧aggOf Tryz.prog 31=some false∧bytOf Tryz.prog 31=some 24∧zerOf Tryz.prog 31=some [.v (.slice none 0 0)]∧zvOf Tryz.prog 31=some (.c (.v (.slice none 0 0)))∧isSl Tryz.prog 31=true∧elOf Tryz.prog 31=some (9,1)∧isBytes Tryz.prog 31=false:=by and_intros<;>kernel_rfl
theorem tab33:szOf Tryz.prog 33=some 6∧aggOf Tryz.prog 33=some true∧bytOf Tryz.prog 33=some 120∧zerOf Tryz.prog 33=some [.v (.string ⟨#[]⟩),.v (.slice none 0 0),.v (.slice none 0 0),.v (.slice none 0 0),.v (.slice none 0 0),.v (.bool false)]∧zvOf Tryz.prog 33=some (.agg [.v (.string ⟨#[]⟩),.v (.slice none 0 0),.v (.slice none 0 0),.v (.slice none 0 0),.v (.slice none 0 0),.v (.bool false)])∧fldOf Tryz.prog 33 0=some (0,9)∧fldOf Tryz.prog 33 1=some (1,31)∧fldOf Tryz.prog 33 2=some (2,31)∧fldOf Tryz.prog 33 3=some (3,31)∧fldOf Tryz.prog 33 4=some (4,31)∧fldOf Tryz.prog 33 5=some (5,4)∧plcOf Tryz.prog 33=some [(0,1),(1,1),(2,1),(3,1),(4,1),(5,1)]:=by and_intros<;>kernel_rfl
theorem tab35:szOf Tryz.prog 35=some 1∧aggOf Tryz.prog 35=some false∧bytOf Tryz.prog 35=some 8∧zerOf Tryz.prog 35=some [.v (.pointer none)]∧zvOf Tryz.prog 35=some (.c (.v (.pointer none))):=by and_intros<;>kernel_rfl
theorem tab39:szOf Tryz.prog 39=some 1∧aggOf Tryz.prog 39=some false∧bytOf Tryz.prog 39=some 24∧zerOf Tryz.prog 39=some [.v (.slice none 0 0)]∧zvOf Tryz.prog 39=some (.c (.v (.slice none 0 0)))∧isSl Tryz.prog 39=true∧elOf Tryz.prog 39=some (53,10)∧isBytes Tryz.prog 39=false:=by and_intros<;>kernel_rfl
theorem tab41:szOf Tryz.prog 41=some 1∧aggOf Tryz.prog 41=some true∧bytOf Tryz.prog 41=some 24∧zerOf Tryz.prog 41=some [.v (.slice none 0 0)]∧zvOf Tryz.prog 41=some (.agg [.v (.slice none 0 0)])∧fldOf Tryz.prog 41 0=some (0,39)∧plcOf Tryz.prog 41=some [(0,1)]:=by and_intros<;>kernel_rfl
theorem tab42:szOf Tryz.prog 42=some 1∧aggOf Tryz.prog 42=some false∧bytOf Tryz.prog 42=some 24∧zerOf Tryz.prog 42=some [.v (.slice none 0 0)]∧zvOf Tryz.prog 42=some (.c (.v (.slice none 0 0)))∧isSl Tryz.prog 42=true∧elOf Tryz.prog 42=some (69,5)∧isBytes Tryz.prog 42=false:=by and_intros<;>kernel_rfl
theorem tab44:szOf Tryz.prog 44=some 5∧aggOf Tryz.prog 44=some true∧bytOf Tryz.prog 44=some 104∧zerOf Tryz.prog 44=some [.v (.slice none 0 0),.v (.slice none 0 0),.v (.slice none 0 0),.v (.slice none 0 0),.v (.int .i64 0)]∧zvOf Tryz.prog 44=some (.agg [.v (.slice none 0 0),.v (.slice none 0 0),.v (.slice none 0 0),.v (.slice none 0 0),.v (.int .i64 0)])∧fldOf Tryz.prog 44 0=some (0,22)∧fldOf Tryz.prog 44 1=some (1,41)∧fldOf Tryz.prog 44 2=some (2,31)∧fldOf Tryz.prog 44 3=some (3,42)∧fldOf Tryz.prog 44 4=some (4,3)∧plcOf Tryz.prog 44=some [(0,1),(1,1),(2,1),(3,1),(4,1)]:=by and_intros<;>kernel_rfl
theorem tab49:szOf Tryz.prog 49=some 7∧aggOf Tryz.prog 49=some true∧bytOf Tryz.prog 49=some 120∧zerOf Tryz.prog 49=some [.v (.pointer none),.v (.pointer none),.v (.slice none 0 0),.v (.slice none 0 0),.v (.slice none 0 0),.v (.slice none 0 0),.v (.int .i64 0)]∧zvOf Tryz.prog 49=some (.agg [.v (.pointer none),.v (.pointer none),.v (.slice none 0 0),.v (.slice none 0 0),.v (.slice none 0 0),.v (.slice none 0 0),.v (.int .i64 0)])∧fldOf Tryz.prog 49 0=some (0,25)∧fldOf Tryz.prog 49 1=some (1,35)∧fldOf Tryz.prog 49 2=some (2,44)∧plcOf Tryz.prog 49=some [(0,1),(1,1),(2,5)]:=by and_intros<;>kernel_rfl
theorem tab51:szOf Tryz.prog 51=some 1∧aggOf Tryz.prog 51=some false∧bytOf Tryz.prog 51=some 24∧zerOf Tryz.prog 51=some [.v (.slice none 0 0)]∧zvOf Tryz.prog 51=some (.c (.v (.slice none 0 0)))∧isSl Tryz.prog 51=true∧elOf Tryz.prog 51=some (97,2)∧isBytes Tryz.prog 51=false:=by and_intros<;>kernel_rfl
theorem tab53:szOf Tryz.prog 53=some 10∧aggOf Tryz.prog 53=some true∧bytOf Tryz.prog 53=some 136∧zerOf Tryz.prog 53=some [.v (.int .i64 0),.v (.int .i64 0),.v (.string ⟨#[]⟩),.v (.string ⟨#[]⟩),.v (.string ⟨#[]⟩),.v (.string ⟨#[]⟩),.v (.string ⟨#[]⟩),.v (.int .i64 0),.v (.int .i64 0),.v (.slice none 0 0)]∧zvOf Tryz.prog 53=some (.agg [.v (.int .i64 0),.v (.int .i64 0),.v (.string ⟨#[]⟩),.v (.string ⟨#[]⟩),.v (.string ⟨#[]⟩),.v (.string ⟨#[]⟩),.v (.string ⟨#[]⟩),.v (.int .i64 0),.v (.int .i64 0),.v (.slice none 0 0)])∧fldOf Tryz.prog 53 0=some (0,3)∧fldOf Tryz.prog 53 1=some (1,3)∧fldOf Tryz.prog 53 2=some (2,9)∧fldOf Tryz.prog 53 3=some (3,9)∧fldOf Tryz.prog 53 4=some (4,9)∧fldOf Tryz.prog 53 5=some (5,9)∧fldOf Tryz.prog 53 6=some (6,9)∧fldOf Tryz.prog 53 7=some (7,3)∧fldOf Tryz.prog 53 8=some (8,3)∧fldOf Tryz.prog 53 9=some (9,51)∧plcOf Tryz.prog 53=some [(0,1),(1,1),(2,1),(3,1),(4,1),(5,1),(6,1),(7,1),(8,1),(9,1)]:=by and_intros<;>kernel_rfl
theorem tab55:szOf Tryz.prog 55=some 14∧aggOf Tryz.prog 55=some true∧bytOf Tryz.prog 55=some 192∧zerOf Tryz.prog 55=some [.v (.int .i64 0),.v (.string ⟨#[]⟩),.v (.int .i64 0),.v (.int .i64 0),.v (.string ⟨#[]⟩),.v (.string ⟨#[]⟩),.v (.string ⟨#[]⟩),.v (.string ⟨#[]⟩),.v (.string ⟨#[]⟩),.v (.int .i64 0),.v (.int .i64 0),.v (.slice none 0 0),.v (.string ⟨#[]⟩),.v (.string ⟨#[]⟩)]∧zvOf Tryz.prog 55=some (.agg [.v (.int .i64 0),.v (.string ⟨#[]⟩),.v (.int .i64 0),.v (.int .i64 0),.v (.string ⟨#[]⟩),.v (.string ⟨#[]⟩),.v (.string ⟨#[]⟩),.v (.string ⟨#[]⟩),.v (.string ⟨#[]⟩),.v (.int .i64 0),.v (.int .i64 0),.v (.slice none 0 0),.v (.string ⟨#[]⟩),.v (.string ⟨#[]⟩)])∧fldOf Tryz.prog 55 0=some (0,3)∧fldOf Tryz.prog 55 1=some (1,9)∧fldOf Tryz.prog 55 2=some (2,53)∧fldOf Tryz.prog 55 3=some (12,9)∧fldOf Tryz.prog 55 4=some (13,9)∧plcOf Tryz.prog 55=some [(0,1),(1,1),(2,10),(12,1),(13,1)]:=by and_intros<;>kernel_rfl
theorem tab69:szOf Tryz.prog 69=some 5∧aggOf Tryz.prog 69=some true∧bytOf Tryz.prog 69=some 56∧zerOf Tryz.prog 69=some [.v (.int .i64 0),.v (.int .i64 0),.v (.int .i64 0),.v (.string ⟨#[]⟩),.v (.string ⟨#[]⟩)]∧zvOf Tryz.prog 69=some (.agg [.v (.int .i64 0),.v (.int .i64 0),.v (.int .i64 0),.v (.string ⟨#[]⟩),.v (.string ⟨#[]⟩)])∧fldOf Tryz.prog 69 0=some (0,3)∧fldOf Tryz.prog 69 1=some (1,3)∧fldOf Tryz.prog 69 2=some (2,3)∧fldOf Tryz.prog 69 3=some (3,9)∧fldOf Tryz.prog 69 4=some (4,9)∧plcOf Tryz.prog 69=some [(0,1),(1,1),(2,1),(3,1),(4,1)]∧eqKinds Tryz.prog 69=some [.int,.int,.int,.str,.str]:=by and_intros<;>kernel_rfl
theorem tab87:szOf Tryz.prog 87=some 5∧aggOf Tryz.prog 87=some true∧bytOf Tryz.prog 87=some 104∧zerOf Tryz.prog 87=some [.v (.slice none 0 0),.v (.slice none 0 0),.v (.slice none 0 0),.v (.slice none 0 0),.v (.int .i64 0)]∧zvOf Tryz.prog 87=some (.agg [.v (.slice none 0 0),.v (.slice none 0 0),.v (.slice none 0 0),.v (.slice none 0 0),.v (.int .i64 0)])∧fldOf Tryz.prog 87 0=some (0,41)∧fldOf Tryz.prog 87 1=some (1,22)∧fldOf Tryz.prog 87 2=some (2,31)∧fldOf Tryz.prog 87 3=some (3,42)∧fldOf Tryz.prog 87 4=some (4,3)∧plcOf Tryz.prog 87=some [(0,1),(1,1),(2,1),(3,1),(4,1)]:=by and_intros<;>kernel_rfl
theorem tab97:szOf Tryz.prog 97=some 2∧aggOf Tryz.prog 97=some true∧bytOf Tryz.prog 97=some 32∧zerOf Tryz.prog 97=some [.v (.string ⟨#[]⟩),.v (.string ⟨#[]⟩)]∧zvOf Tryz.prog 97=some (.agg [.v (.string ⟨#[]⟩),.v (.string ⟨#[]⟩)])∧fldOf Tryz.prog 97 0=some (0,9)∧fldOf Tryz.prog 97 1=some (1,9)∧plcOf Tryz.prog 97=some [(0,1),(1,1)]∧eqKinds Tryz.prog 97=some [.str,.str]:=by and_intros<;>kernel_rfl
theorem tab100:szOf Tryz.prog 100=some 1∧aggOf Tryz.prog 100=some false∧bytOf Tryz.prog 100=some 8∧zerOf Tryz.prog 100=some [.v (.nilFunc)]∧zvOf Tryz.prog 100=some (.c (.v (.nilFunc))):=by and_intros<;>kernel_rfl
theorem tab102:szOf Tryz.prog 102=some 1∧aggOf Tryz.prog 102=some false∧bytOf Tryz.prog 102=some 8∧zerOf Tryz.prog 102=some [.v (.map none)]∧zvOf Tryz.prog 102=some (.c (.v (.map none)))∧mpOf Tryz.prog 102=some ((some .i64),100):=by and_intros<;>kernel_rfl
theorem tab107:szOf Tryz.prog 107=some 1∧aggOf Tryz.prog 107=some false∧bytOf Tryz.prog 107=some 24∧zerOf Tryz.prog 107=some [.v (.slice none 0 0)]∧zvOf Tryz.prog 107=some (.c (.v (.slice none 0 0)))∧isSl Tryz.prog 107=true∧elOf Tryz.prog 107=some (110,1)∧isBytes Tryz.prog 107=false:=by and_intros<;>kernel_rfl
theorem tab110:szOf Tryz.prog 110=some 1∧aggOf Tryz.prog 110=some false∧bytOf Tryz.prog 110=some 24∧zerOf Tryz.prog 110=some [.v (.slice none 0 0)]∧zvOf Tryz.prog 110=some (.c (.v (.slice none 0 0)))∧isSl Tryz.prog 110=true∧elOf Tryz.prog 110=some (162,129)∧isBytes Tryz.prog 110=false:=by and_intros<;>kernel_rfl
theorem tab117:szOf Tryz.prog 117=some 1∧aggOf Tryz.prog 117=some false∧bytOf Tryz.prog 117=some 8∧zerOf Tryz.prog 117=some [.v (.map none)]∧zvOf Tryz.prog 117=some (.c (.v (.map none)))∧mpOf Tryz.prog 117=some ((some .i64),3):=by and_intros<;>kernel_rfl
theorem tab118:szOf Tryz.prog 118=some 1∧aggOf Tryz.prog 118=some false∧bytOf Tryz.prog 118=some 8∧zerOf Tryz.prog 118=some [.v (.map none)]∧zvOf Tryz.prog 118=some (.c (.v (.map none)))∧mpOf Tryz.prog 118=some ((some .i64),9):=by and_intros<;>kernel_rfl
theorem tab120:szOf Tryz.prog 120=some 3∧aggOf Tryz.prog 120=some true∧bytOf Tryz.prog 120=some 40∧zerOf Tryz.prog 120=some [.v (.slice none 0 0),.v (.map none),.v (.map none)]∧zvOf Tryz.prog 120=some (.agg [.v (.slice none 0 0),.v (.map none),.v (.map none)])∧fldOf Tryz.prog 120 0=some (0,39)∧fldOf Tryz.prog 120 1=some (1,117)∧fldOf Tryz.prog 120 2=some (2,118)∧plcOf Tryz.prog 120=some [(0,1),(1,1),(2,1)]:=by and_intros<;>kernel_rfl
theorem tab133:szOf Tryz.prog 133=some 1∧aggOf Tryz.prog 133=some false∧bytOf Tryz.prog 133=some 24∧zerOf Tryz.prog 133=some [.v (.slice none 0 0)]∧zvOf Tryz.prog 133=some (.c (.v (.slice none 0 0)))∧isSl Tryz.prog 133=true∧elOf Tryz.prog 133=some (31,1)∧isBytes Tryz.prog 133=false:=by and_intros<;>kernel_rfl
theorem tab135:szOf Tryz.prog 135=some 1∧aggOf Tryz.prog 135=some false∧bytOf Tryz.prog 135=some 8∧zerOf Tryz.prog 135=some [.v (.nilFunc)]∧zvOf Tryz.prog 135=some (.c (.v (.nilFunc))):=by and_intros<;>kernel_rfl
theorem tab156:szOf Tryz.prog 156=some 2∧aggOf Tryz.prog 156=some true∧bytOf Tryz.prog 156=some 24∧zerOf Tryz.prog 156=some [.v (.string ⟨#[]⟩),.v (.int .i64 0)]∧zvOf Tryz.prog 156=some (.agg [.v (.string ⟨#[]⟩),.v (.int .i64 0)])∧fldOf Tryz.prog 156 0=some (0,9)∧fldOf Tryz.prog 156 1=some (1,3)∧plcOf Tryz.prog 156=some [(0,1),(1,1)]∧eqKinds Tryz.prog 156=some [.str,.int]:=by and_intros<;>kernel_rfl
theorem tab160:szOf Tryz.prog 160=some 127∧aggOf Tryz.prog 160=some true∧bytOf Tryz.prog 160=some 127∧zerOf Tryz.prog 160=some (List.replicate 127 (.v (.bool false)))∧arrOf Tryz.prog 160=some (127,1)∧plcOf Tryz.prog 160=none:=by and_intros<;>kernel_rfl
theorem tab162:szOf Tryz.prog 162=some 129∧aggOf Tryz.prog 162=some true∧bytOf Tryz.prog 162=some 129∧fldOf Tryz.prog 162 0=some (0,5)∧fldOf Tryz.prog 162 1=some (1,4)∧fldOf Tryz.prog 162 2=some (2,160)∧plcOf Tryz.prog 162=some [(0,1),(1,1),(2,127)]:=by and_intros<;>kernel_rfl
theorem tab174:szOf Tryz.prog 174=some 256∧aggOf Tryz.prog 174=some true∧bytOf Tryz.prog 174=some 256∧zerOf Tryz.prog 174=some (List.replicate 256 (.v (.bool false)))∧arrOf Tryz.prog 174=some (256,1)∧plcOf Tryz.prog 174=none:=by and_intros<;>kernel_rfl
theorem tab178:szOf Tryz.prog 178=some 1∧aggOf Tryz.prog 178=some false∧bytOf Tryz.prog 178=some 24∧zerOf Tryz.prog 178=some [.v (.slice none 0 0)]∧zvOf Tryz.prog 178=some (.c (.v (.slice none 0 0)))∧isSl Tryz.prog 178=true∧elOf Tryz.prog 178=some (212,1)∧isBytes Tryz.prog 178=false:=by and_intros<;>kernel_rfl
theorem tab207:szOf Tryz.prog 207=some 128∧aggOf Tryz.prog 207=some true∧bytOf Tryz.prog 207=some 128∧zerOf Tryz.prog 207=some (List.replicate 128 (.v (.bool false)))∧arrOf Tryz.prog 207=some (128,1)∧plcOf Tryz.prog 207=none:=by and_intros<;>kernel_rfl
theorem tab209:szOf Tryz.prog 209=some 130∧aggOf Tryz.prog 209=some true∧bytOf Tryz.prog 209=some 130∧zerOf Tryz.prog 209=some (List.replicate 130 (.v (.bool false)))∧fldOf Tryz.prog 209 0=some (0,4)∧fldOf Tryz.prog 209 1=some (1,4)∧fldOf Tryz.prog 209 2=some (2,207)∧plcOf Tryz.prog 209=some [(0,1),(1,1),(2,128)]:=by and_intros<;>kernel_rfl
theorem tab212:szOf Tryz.prog 212=some 1∧aggOf Tryz.prog 212=some false∧bytOf Tryz.prog 212=some 24∧zerOf Tryz.prog 212=some [.v (.slice none 0 0)]∧zvOf Tryz.prog 212=some (.c (.v (.slice none 0 0)))∧isSl Tryz.prog 212=true∧elOf Tryz.prog 212=some (209,130)∧isBytes Tryz.prog 212=false:=by and_intros<;>kernel_rfl
theorem tab227:szOf Tryz.prog 227=some 1∧aggOf Tryz.prog 227=some false∧bytOf Tryz.prog 227=some 8∧zerOf Tryz.prog 227=some [.v (.map none)]∧zvOf Tryz.prog 227=some (.c (.v (.map none)))∧mpOf Tryz.prog 227=some ((some .i64),4):=by and_intros<;>kernel_rfl
theorem tab248:szOf Tryz.prog 248=some 1∧aggOf Tryz.prog 248=some false∧bytOf Tryz.prog 248=some 8∧zerOf Tryz.prog 248=some [.v (.int .u64 0)]∧zvOf Tryz.prog 248=some (.c (.v (.int .u64 0)))∧intOf? Tryz.prog 248=some .u64:=by and_intros<;>kernel_rfl
theorem tab249:szOf Tryz.prog 249=some 1∧aggOf Tryz.prog 249=some false∧bytOf Tryz.prog 249=some 24∧zerOf Tryz.prog 249=some [.v (.slice none 0 0)]∧zvOf Tryz.prog 249=some (.c (.v (.slice none 0 0)))∧isSl Tryz.prog 249=true∧elOf Tryz.prog 249=some (51,1)∧isBytes Tryz.prog 249=false:=by and_intros<;>kernel_rfl
attribute [push_cast] tab3 tab4 tab5 tab9 tab22 tab23 tab25 tab27 tab31 tab33 tab35 tab39 tab41 tab42 tab44 tab49 tab51 tab53 tab55 tab69 tab87 tab97 tab100 tab102 tab107 tab110 tab117 tab118 tab120 tab133 tab135 tab156 tab160 tab162 tab174 tab178 tab207 tab209 tab212 tab227 tab248 tab249
end Go.Proofs.YtmbbkfffcflfcaaGreatDoor
namespace Go.Proofs.YtmbbkfffcflfcaaGreatDoor
open Go.RowKit
open IntWalk renaming iteOmega → O, toNatUp → U
set_option linter.unusedVariables false
set_option linter.unusedSimpArgs false
theorem pcalls_split0 {P:Program} {g:FuncId} {l1 l2:List PV} {sz:Nat} {os:List Ob} {R:PV → List Ob → Prop} (h:∀ A c,PCalls P g (l1++.c (.v (.slice A 0 c)) :: l2) os R):PCalls P g (l1++.c (.sl sz []) :: l2) os R:=by
 intro Γ w xs hm hx
 obtain ⟨a,b,rfl,h1,h2⟩:=hx.split
 obtain ⟨y,m,rfl,h3,h4⟩:=All2.cons_l.1 h2
 obtain ⟨A,c,xs',hy,_⟩:=rd_sl.1 h3
 exact h A c Γ w _ hm (h1.append ⟨⟨hy,rfl⟩,h4⟩)
theorem pcalls_adopt {P:Program} {g:FuncId} {args:List PV} {os:List Ob} {R R':PV → List Ob → Prop} (el:TypeId) (sz:Nat) (hsz:0 < sz) (h:PCalls P g args os R)
  (hR:∀ r os',R r os' → R' r os'∨(r = .c (.v (.slice none 0 0))∧R' (.c (.own os'.length 0)) (os'++[.arr el sz []]))):PCalls P g args os R':=by
 intro Γ w xs hm hx
 refine (h Γ w xs hm hx).mono ?_
 rintro e w' ⟨r,os',Γ',y,rfl,h2,h3,h4,h5,h6⟩
 rcases hR r os' h2 with h7|⟨rfl,h7⟩
 ·exact ⟨r,os',Γ',y,rfl,h7,h3,h4,h5,h6⟩
 ·have hS:=Same.refl w'
  have hm2:MemOk (Γ'.push 0 0) (os'++[.arr el sz []]) w':=h5.push hS _ 0 0 ⟨by simp,hsz,fun _=>rfl,fun h=>absurd h (by simp [G.push,upd_same])⟩ (fun h=>absurd h (by omega))
  have hn:=h5.n
  refine ⟨_,_,Γ'.push 0 0,y,rfl,h7,⟨by simp [G.push,hn],.inl ⟨by rw [← hn];simp [G.push,upd_same],⟨none,h3.1⟩,rfl⟩⟩,by simp;omega,hm2,?_⟩
  exact h6.trans (grow_push h5 (Ext.refl No w') 0 0 (fun h=>absurd h (by omega)) (by rw [hn];exact h4))
theorem weak_trim {N p:Nat} {s:S} (k n:Nat) {el:TypeId} {sz:Nat} {rows:List (List D)} (hk:s.o[k]? = some (.arr el sz rows)):Weak N p s ⟨s.t,setO s.o k (.arr el sz (rows.take n))⟩:=by
 intro Γ a w hA
 have hm:=hA.inv.m
 have hkl:k < s.o.length:=(List.getElem?_eq_some_iff.1 hk).1
 refine ⟨Γ,⟨⟨hA.inv.size,hA.inv.defers,hA.inv.t,⟨by simp [setO,hm.n],fun j o ho=>?_,hm.sep,hm.off,hm.lt,hm.pin⟩⟩,hA.le⟩,Grow.refl _ _ _⟩
 simp only [setO] at ho
 by_cases e:k=j
 ·subst e
  rw [List.getElem?_set_self hkl] at ho
  cases ho
  obtain ⟨g1,g2,g3,g4⟩:=hm.ob k _ hk
  refine ⟨fun r hr=>g1 r (List.mem_of_mem_take hr),g2,fun h=>by rw [g3 h];simp,fun hc=>?_⟩
  obtain ⟨cur,b1,b2,b3,b4,b5⟩:=g4 hc
  refine ⟨cur,b1,b2,by rw [List.length_take];omega,b4,?_⟩
  rcases Nat.lt_or_ge rows.length n with h|h
  ·rw [List.take_of_length_le (by omega)];exact b5
  ·have:=b5.take (n * sz)
   rw [take_rows g1 h,List.take_take,Nat.min_eq_left (Nat.mul_le_mul_right _ h)] at this
   rw [List.length_take,Nat.min_eq_left h]
   exact this
 ·rw [List.getElem?_set_ne e] at ho
  exact hm.ob j o ho
def inM (s:ByteArray) (l:List ByteArray):Bool:=l.any fun x=>decide (x=s)
theorem inM_iff {s:ByteArray} {l:List ByteArray}:inM s l=true ↔ s ∈ l:=by
 simp only [inM,List.any_eq_true,decide_eq_true_eq]
 exact ⟨fun ⟨x,h,e⟩=>e ▸ h,fun h=>⟨s,h,rfl⟩⟩
theorem inM_false {s:ByteArray} {l:List ByteArray}:inM s l=false ↔ s ∉ l:=by rw [← inM_iff];simp
def setE (l:List ByteArray):List (MK × List D):=l.map fun s=>(.s s,[.v (.bool true)])
def addS (l:List ByteArray) (s:ByteArray):List ByteArray:=if inM s l=true then l else l++[s]
theorem mem_addS {l:List ByteArray} {s x:ByteArray}:x ∈ addS l s ↔ x ∈ l∨x=s:=by
 unfold addS
 split
 ·rename_i h
  rw [inM_iff] at h
  constructor
  ·exact .inl
  ·rintro (h'|rfl)
   ·exact h'
   ·exact h
 ·simp
theorem setE_nil:setE []=[]:=rfl
attribute [push_cast] setE_nil
end Go.Proofs.YtmbbkfffcflfcaaGreatDoor
namespace Go.Proofs.YtmbbkfffcflfcaaGreatDoor
attribute [local irreducible] PL QL PWPr PCalls Weak RetK Kontr
open Go.RowKit
open IntWalk renaming iteOmega → O, toNatUp → U
set_option linter.unusedVariables false
set_option linter.unusedSimpArgs false
set_option maxRecDepth 20000
theorem fold_pure (v n:Int) (hv : -9223372036854775808≤v) (hv':v≤9223372036854775807) (hn:n≤9223372036854775807) :
  PCalls Tryz.prog 43 [.c (.v (.int .i64 v)),.c (.v (.int .i64 n))] [] fun r os=>r = .c (.v (.int .i64 (fold v n)))∧os=[]:=by
 have hlo:=Int.lt_tmod_of_pos v (b:=n)
 have hhi:=Int.tmod_lt_of_pos v (b:=n)
 refine pcalls_of Tryz.func43 rfl (by simp [Tryz.ntmps43]) ?_
 rw [Tryz.ntmps43,Tryz.results43]
 push_cast [O,U]
 by_cases h1:n≤1
 ·repeat' ((first|refine pG ?_|refine pQ ?_|refine pU ?_|refine pif ?_ ?_<;>intro h<;>try exact pN h)<;>push_cast [O,U])
  (refine retK_of [] ?_;push_cast [O,U])
  simp [fold,h1]
 ·by_cases h0:0≤v
  ·have he:=Int.tmod_eq_emod_of_nonneg h0 (b:=n)
   have hb:=Int.emod_nonneg v (b:=n) (by omega)
   repeat' ((first|refine pG ?_|refine pQ ?_|refine pU ?_|refine pif ?_ ?_<;>intro h<;>try exact pN h)<;>push_cast [O,U])
   (refine retK_of [] ?_;push_cast [O,U])
   simp only [fold,if_neg h1,he]
   rw [if_neg (by omega)]
  ·by_cases h2:v.tmod n < 0
   ·repeat' ((first|refine pG ?_|refine pQ ?_|refine pU ?_|refine pif ?_ ?_<;>intro h<;>try exact pN h)<;>push_cast [O,U])
    (refine retK_of [] ?_;push_cast [O,U])
    simp [fold,h1,h2]
   ·repeat' ((first|refine pG ?_|refine pQ ?_|refine pU ?_|refine pif ?_ ?_<;>intro h<;>try exact pN h)<;>push_cast [O,U])
    (refine retK_of [] ?_;push_cast [O,U])
    simp [fold,h1,h2]
def tape (L:List Int) (k:Nat):Ob:=.box 27 [.sl 1 (L.map fun x=>[D.v (.int .i64 x)]),.v (.int .i64 k)]
attribute [push_cast] tape
theorem next_pure (L:List Int) (k:Nat) (n:Int) (hk:k < 1000000) (hn:n≤9223372036854775807) (hL:∀ x ∈ L,-9223372036854775808≤x∧x≤9223372036854775807) (hl:L.length≤9223372036854775807) :
  PCalls Tryz.prog 14 [.c (.ptr 0 0),.c (.v (.int .i64 n))] [tape L k] fun r os=>r = .c (.v (.int .i64 (fold (tapeAt L k) n)))∧os=[tape L (k+1)]:=by
 refine pcalls_of Tryz.func14 rfl (by simp [Tryz.ntmps14]) ?_
 rw [Tryz.ntmps14,Tryz.results14]
 push_cast [O,U]
 by_cases hlt:k < L.length
 ·have hx:=hL (L.getD k default) (by rw [getD_lt L hlt];exact List.getElem_mem _)
  repeat' ((first|refine plE [] (fold_pure (L.getD k default) n (by omega) (by omega) hn) ?_ ?_|refine pG ?_|refine pQ ?_|refine pU ?_|refine pif ?_ ?_<;>intro h<;>try exact pN h)<;>push_cast [O,U])
  (refine retK_of [0] ?_;push_cast [O,U])
  simp [tapeAt,hlt]
 ·repeat' ((first|refine plE [] (fold_pure ((k:Int) * 7 % 11) n (by omega) (by omega) hn) ?_ ?_|refine pG ?_|refine pQ ?_|refine pU ?_|refine pif ?_ ?_<;>intro h<;>try exact pN h)<;>push_cast [O,U])
  (refine retK_of [0] ?_;push_cast [O,U])
  simp [tapeAt,hlt]
def strD (s:ByteArray):List D:=[.v (.string s)]
attribute [push_cast] strD
def pick (L:List Int) (k:Nat) (l:List ByteArray):ByteArray:=l.getD (fold (tapeAt L k) l.length).toNat default
theorem fold_bds (v n:Int) (hn:0 < n):0≤fold v n∧fold v n < n:=by
 unfold fold
 have:=Int.lt_tmod_of_pos v (b:=n) hn
 have:=Int.tmod_lt_of_pos v (b:=n) hn
 split
 ·omega
 ·split<;>omega
theorem one_pure (L:List Int) (k:Nat) (l:List ByteArray) (hk:k < 1000000) (h0:0 < l.length) (hn:l.length≤1000000) (hL:∀ x ∈ L,-9223372036854775808≤x∧x≤9223372036854775807) (hl:L.length≤9223372036854775807) :
  PCalls Tryz.prog 15 [.c (.ptr 0 0),.c (.sl 1 (l.map strD))] [tape L k] fun r os=>r = .c (.v (.string (pick L k l)))∧os=[tape L (k+1)]:=by
 refine pcalls_of Tryz.func15 rfl (by simp [Tryz.ntmps15]) ?_
 rw [Tryz.ntmps15,Tryz.results15]
 obtain ⟨hb,hb'⟩:=fold_bds (tapeAt L k) l.length (by omega)
 push_cast [O,U]
 repeat' ((first|refine plE [0] (next_pure L k l.length hk (by omega) hL hl) ?_ ?_|refine pG ?_|refine pQ ?_|refine pU ?_|refine pif ?_ ?_<;>intro h<;>try exact pN h)<;>push_cast [O,U])
 (refine retK_of [0] ?_;push_cast [O,U])
 simp [pick,List.getD]
theorem next_ex (L:List Int) (k:Nat) (n:Int) (hk:k < 1000000) (h0:0 < n) (hn:n≤9223372036854775807) (hL:∀ x ∈ L,-9223372036854775808≤x∧x≤9223372036854775807) (hl:L.length≤9223372036854775807) :
  PCalls Tryz.prog 14 [.c (.ptr 0 0),.c (.v (.int .i64 n))] [tape L k] fun r os=>∃ v:Int,(0≤v∧v < n)∧r = .c (.v (.int .i64 v))∧os=[tape L (k+1)] :=
 (next_pure L k n hk hn hL hl).mono fun r os h=>⟨_,fold_bds _ _ h0,h.1,h.2⟩
theorem one_ex (L:List Int) (k:Nat) (l:List ByteArray) (hk:k < 1000000) (h0:0 < l.length) (hn:l.length≤1000000) (hL:∀ x ∈ L,-9223372036854775808≤x∧x≤9223372036854775807) (hl:L.length≤9223372036854775807) :
  PCalls Tryz.prog 15 [.c (.ptr 0 0),.c (.sl 1 (l.map strD))] [tape L k] fun r os=>∃ s,s ∈ l∧r = .c (.v (.string s))∧os=[tape L (k+1)] :=
 (one_pure L k l hk h0 hn hL hl).mono fun r os h=>⟨_,by
  have:=fold_bds (tapeAt L k) l.length (by omega)
  unfold pick
  rw [getD_lt _ (by omega)]
  exact List.getElem_mem _,h.1,h.2⟩
end Go.Proofs.YtmbbkfffcflfcaaGreatDoor
namespace Go.Proofs.YtmbbkfffcflfcaaGreatDoor
open Go.RowKit
open IntWalk renaming iteOmega → O, toNatUp → U
set_option linter.unusedVariables false
set_option linter.unusedSimpArgs false
structure Atr where
 name:ByteArray
 value:ByteArray
 deriving DecidableEq,Inhabited
def Atr.d (x:Atr):List D:=[.v (.string x.name),.v (.string x.value)]
attribute [push_cast] Atr.d
structure Dev where
 index:Int
 parent:Int
 name:ByteArray
 original:ByteArray
 subsystem:ByteArray
 driver:ByteArray
 alias_:ByteArray
 kind:Int
 number:Int
 attrs:List Atr
 deriving DecidableEq,Inhabited
def Dev.w (d:Dev) (a:E):List E:=[.v (.int .i64 d.index),.v (.int .i64 d.parent),.v (.string d.name),.v (.string d.original),.v (.string d.subsystem),.v (.string d.driver),.v (.string d.alias_),.v (.int .i64 d.kind),.v (.int .i64 d.number),a]
def Dev.e (d:Dev):List E:=d.w (.sl 2 (d.attrs.map Atr.d))
attribute [push_cast] Dev.e Dev.w
def Dev.d (d:Dev):List D:=[.v (.int .i64 d.index),.v (.int .i64 d.parent),.v (.string d.name),.v (.string d.original),.v (.string d.subsystem),.v (.string d.driver),.v (.string d.alias_),.v (.int .i64 d.kind),.v (.int .i64 d.number),.sl 2 (d.attrs.map Atr.d)]
attribute [push_cast] Dev.d
def trE (l:List Dev):List E:=[.sl 10 (l.map Dev.d)]
attribute [push_cast] trE
abbrev Fit (s:ByteArray):Prop:=s.size≤9223372036854775807
def okA (l:List Atr):Prop:=∀ a ∈ l,Fit a.name∧Fit a.value
structure Dev.ok (d:Dev):Prop where
 name:Fit d.name
 original:Fit d.original
 subsystem:Fit d.subsystem
 driver:Fit d.driver
 alias_:Fit d.alias_
 attrs:okA d.attrs
 len:d.attrs.length≤9223372036854775807
 orig:d.original.size≤1048576
theorem mem_fit {l:List ByteArray} {s:ByteArray} (h:l.all (fun s=>decide (s.size≤100))=true) (hm:s ∈ l):s.size≤100:=by
 have:=List.all_eq_true.1 h s hm
 simpa using this
theorem fit_of {s:ByteArray} {n:Nat} (h:s.size≤n) (hn:n≤1048576):Fit s:=Nat.le_trans h (Nat.le_trans hn (by decide))
structure Mod where
 name:ByteArray
 aliases:List ByteArray
 needs:List ByteArray
 pre:List ByteArray
 post:List ByteArray
 fails:Bool
 deriving DecidableEq,Inhabited
def Mod.d (m:Mod):List D:=[.v (.string m.name),.sl 1 (m.aliases.map strD),.sl 1 (m.needs.map strD),.sl 1 (m.pre.map strD),.sl 1 (m.post.map strD),.v (.bool m.fails)]
structure Ext2 where
 name:ByteArray
 value:ByteArray
 deriving DecidableEq,Inhabited
def Ext2.d (x:Ext2):List D:=[.v (.string x.name),.v (.string x.value)]
structure Cfg where
 modules:List Mod
 blocked:List ByteArray
 off:List ByteArray
 keep:List ByteArray
 extra:List Ext2
 deriving DecidableEq,Inhabited
def Cfg.d (c:Cfg):List D:=[.sl 6 (c.modules.map Mod.d),.sl 1 (c.blocked.map strD),.sl 1 (c.off.map strD),.sl 1 (c.keep.map strD),.sl 2 (c.extra.map Ext2.d)]
attribute [push_cast] Mod.d Ext2.d Cfg.d
def modOf (l:List Mod) (n:ByteArray):Option Mod:=l.find? fun m=>decide (m.name=n)
def noMod:Mod:=⟨⟨#[]⟩,[],[],[],[],false⟩
def Mod.e (m:Mod):List E:=m.d.map D.e
attribute [push_cast] Mod.e
def allSome:List (Option PV) → List PV → Prop
 | [],[]=>True
 | some q :: l,r :: m=>leP q r∧allSome l m
 | _,_=>False
theorem allSome_ok {w:World} {Γ:G}:∀ {l:List (Option PV)} {m:List PV} {ys:List Value},allSome l m → All2 (fun q y=>∀ r,q=some r → RP w Γ r y) l ys → All2 (RP w Γ) m ys
 | [],[],_,_,h=>by rw [All2.nil_l] at h ⊢;exact h
 | some q :: l,r :: m,y :: ys,h,hr=>⟨leP_ok h.1 (hr.1 q rfl),allSome_ok h.2 hr.2⟩
 | some _ :: _,_ :: _,[],_,hr=>hr.elim
 | [],_ :: _,_,h,_=>h.elim
 | none :: _,_,_,h,_=>h.elim
 | some _ :: _,[],_,h,_=>h.elim
section
variable {P:Program} {N p:Nat} {ops:Array Oper} {rest:List Oper} {o:Oper} {s:S} {K:S → Prop}
theorem pl_call_all {f:Operand} {args:Array Operand} {tys:Array TypeId} {g:FuncId} {ds:List D} {cap:List Nat} {args':List PV} {R:PV → List Ob → Prop}
  (ho:o.op = .call ⟨.value f,args,tys⟩) (hg:gd ops s o.guard=some true) (hf:s.ev f=some (.c (.fn (.func g) ds cap))) (hb:bodyOk P g=true) (hd:dstOk N o.dst)
  (ha:allSome (callArgs s ds args.toList cap) args') (hc:PCalls P g args' s.o R)
  (hK:∀ r os'',R r os'' → PL P N p ops rest (S.put ⟨s.t,os''⟩ o.dst r) K):PL P N p ops (o :: rest) s K:=by
 intro Γ a w Q hA hQ
 obtain ⟨xs,ys,hfv,hargs⟩:=callArgs_ok hA.inv hf args
 have hseen:=allSome_ok ha hargs
 unfold wpListIn
 rw [if_pos (gd_ok hg hA.inv)]
 refine wpIn_enter (run_enter ho hfv hb) ?_
 have:=hc _ w _ hA.inv.m hseen
 rw [Array.toArray_toList] at this
 refine this.mono ?_
 rintro e w' ⟨r,os'',Γ',y,rfl,hR,hr,hlen,hm',hgr⟩
 have hle:p≤s.o.length:=by rw [← hA.inv.m.n];exact hA.le
 have hag:∀ j,j < Γ.n → Agree Γ Γ' j:=fun j hj=>by
  have hj':j < s.o.length:=by rw [← hA.inv.m.n];exact hj
  exact ⟨by rw [hm'.n];omega,(hgr.keep j hj').1,(hgr.keep j hj').2⟩
 have hI:=hA.inv.heap hm' (hgr.stay hA.inv.m) hag
 refine ⟨y,rfl,hK r os'' hR Γ' _ w' Q ⟨hI.put (dst_lt hd) hr,by rw [hm'.n];omega⟩ fun s' Γ2 a2 w2 hk hA2 hg2 hd2=>hQ s' Γ2 a2 w2 hk hA2 ?_ (hd2.trans (put_defers _ _ _))⟩
 have hgp:Grow p Γ w Γ' w':=⟨hgr.ext,hgr.sub,hgr.new,hgr.imm,fun k hk=>hgr.keep k (by omega)⟩
 exact hgp.trans hg2
theorem weak_slots {s':S} (ht:subT s s'.t) (ho:s'.o=s.o):Weak N p s s':=by
 intro Γ a w hA
 refine ⟨Γ,⟨⟨hA.inv.size,hA.inv.defers,fun i q hq=>?_,by rw [ho];exact hA.inv.m⟩,hA.le⟩,Grow.refl _ _ _⟩
 obtain ⟨r,hr,hle⟩:=subT_look ht hq
 obtain ⟨i1,i2⟩:=hA.inv.t i r hr
 exact ⟨i1,leP_ok hle i2⟩
end
theorem weak_seg {N p:Nat} {s:S} (i:Nat) {k n:Nat} (sz:Nat) (hi:s.get i=some (.c (.own k n))):Weak N p s ⟨(i,.c (.seg k sz 0 n)) :: s.t,s.o⟩:=by
 intro Γ a w hA
 refine ⟨Γ,⟨⟨hA.inv.size,hA.inv.defers,fun j q hq=>?_,hA.inv.m⟩,hA.le⟩,Grow.refl _ _ _⟩
 simp only [S.get,look] at hq
 split at hq
 ·rename_i e
  subst e
  cases hq
  obtain ⟨h1,h2,h3⟩:=hA.inv.t j _ hi
  refine ⟨h1,h2,?_⟩
  rcases h3 with ⟨_,⟨A,h4⟩,rfl⟩|⟨h4,h5,h6⟩
  ·exact ⟨A,0,h4,Nat.le_refl _,fun h=>absurd h (by omega)⟩
  ·exact ⟨_,_,h5,h6,fun _=>⟨h4,by omega,by simp⟩⟩
 ·exact hA.inv.t j q hq
def RetA (P:Program) (rs:List ResultVar) (p:Nat) (R:PV → List Ob → Prop) (s:S):Prop:=∃ r,resP P s rs=some r∧p≤s.o.length∧R r s.o
def RetQA (P:Program) (rs:List ResultVar) (p:Nat) (R:PV → List Ob → Prop):Exit → S → Prop
 | .normal,s=>RetA P rs p R s
 | .ret,s=>RetA P rs p R s
 | _,_=>False
theorem RetQA_normal (P:Program) (rs:List ResultVar) (p:Nat) (R:PV → List Ob → Prop) (s:S):RetQA P rs p R .normal s=RetA P rs p R s:=rfl
theorem RetQA_ret (P:Program) (rs:List ResultVar) (p:Nat) (R:PV → List Ob → Prop) (s:S):RetQA P rs p R .ret s=RetA P rs p R s:=rfl
attribute [push_cast] RetQA_normal RetQA_ret allSome
theorem pcalls_of_all {P:Program} {g:FuncId} {fn:Func} {c:Code} {args:List PV} {os:List Ob} {R:PV → List Ob → Prop} (hf:P.funcs[g]? = some fn) (hb:fn.body=some c) (hn:args.length≤fn.ntmps)
  (h:PWP P fn.ntmps os.length c (RetQA P fn.results.toList os.length R) ⟨parT 0 args,os⟩):PCalls P g args os R:=by
 refine calls_pwp (T:=RetA P fn.results.toList os.length R) hf hb hn (fun e s hq=>?_) (fun s' Γ Γ' a' w w' ht hI hg=>?_) h
 ·cases e with
  | normal=>exact ⟨.inl rfl,hq⟩
  | ret=>exact ⟨.inr rfl,hq⟩
  | exit j=>exact hq.elim
  | goto l=>exact hq.elim
  | panic ch=>exact hq.elim
  | outgrown=>exact hq.elim
 ·obtain ⟨r,h1,h2,h3⟩:=ht
  obtain ⟨y,h8,h9⟩:=resP_ok hI h1
  exact ⟨y,h8,r,s'.o,Γ',h3,h9,h2,hI.m,hg⟩
end Go.Proofs.YtmbbkfffcflfcaaGreatDoor
namespace Go.Proofs.YtmbbkfffcflfcaaGreatDoor
attribute [local irreducible] PL QL PWPr PCalls Weak RetK Kontr PA
open Go.RowKit
open IntWalk renaming iteOmega → O, toNatUp → U
set_option linter.unusedVariables false
set_option linter.unusedSimpArgs false
set_option maxRecDepth 20000
def PredM (P:Program) (g:FuncId) (ks:List Nat) (os:List Ob) (l:List Mod) (q:Mod → Bool):Prop:=bodyOk P g=true∧∀ x ∈ l,PCalls P g (.agg x.e :: ks.map fun k=>.c (.ptr k 0)) os fun r os'=>r = .c (.v (.bool (q x)))∧os'=os
def idxM (q:Mod → Bool) (l:List Mod) (k:Int):Prop:=(k = -1∧∀ x ∈ l,q x=false)∨∃ i:Nat,k=i∧i < l.length∧q (l.getD i default)=true∧∀ x ∈ l.take i,q x=false
theorem allSomeM:∀ ks:List Nat,allSome (ks.map fun k=>some (PV.c (.ptr k 0))) (ks.map fun k=>PV.c (.ptr k 0))
 | []=>trivial
 | k :: ks=>⟨leP_refl _,allSomeM ks⟩
theorem indexFuncM_pure (l:List Mod) (hl:l.length≤1000000000) (g:FuncId) (ks:List Nat) (os:List Ob) (q:Mod → Bool) (hp:PredM Tryz.prog g ks os l q) :
  PCalls Tryz.prog 71 [.c (.sl 6 (l.map Mod.d)),.c (.fn (.func g) [] ks)] os fun r os'=>∃ k,idxM q l k∧r = .c (.v (.int .i64 k))∧os'=os:=by
 refine pcalls_of_all Tryz.func71 rfl (by simp [Tryz.ntmps71]) ?_
 rw [Tryz.ntmps71,Tryz.results71]
 push_cast [O,U]
 repeat' ((first|refine pG ?_|refine pQ ?_|refine pU ?_|refine pif ?_ ?_<;>intro h<;>try exact pN h)<;>push_cast [O,U])
 refine pwp_loop2 (α:=Nat) (fun k=>k≤l.length∧∀ x ∈ l.take k,q x=false) (fun k=>⟨[(8,.c (.v (.int .i64 k))),(7,.c (.v (.int .i64 l.length))),(6,.c (.sl 6 (l.map Mod.d))),(0,.c (.sl 6 (l.map Mod.d))),(1,.c (.fn (.func g) [] ks))],os⟩) (fun k=>l.length - k) 0 ⟨by omega,by simp⟩ (weak_slots (by push_cast [O,U]) rfl) ?_
 rintro k ⟨hk,hpre⟩
 by_cases hlt:k < l.length
 ·have hm:l.getD k default ∈ l:=by rw [getD_lt l hlt];exact List.getElem_mem _
  have hc:=hp.2 _ hm
  have hpre2:q (l.getD k default)=false → ∀ x ∈ l.take (k+1),q x=false:=fun h x hx=>by
   rw [List.take_succ_eq_append_getElem hlt] at hx
   rcases List.mem_append.1 hx with hx|hx
   ·exact hpre x hx
   ·simp at hx;subst hx;rw [← getD_lt l hlt];exact h
  cases hq:q (l.getD k default)
  all_goals rw [hq] at hc
  all_goals repeat' ((first|(refine pl_call_all rfl (by push_cast [O,U]) rfl hp.1 (by push_cast [O,U]) ?_ hc ?_;(focus (unfold callArgs;push_cast [O,U];exact allSomeM ks));rintro r os ⟨rfl,rfl⟩;refine pl_of_pops ?_)|refine pG ?_|refine pQ ?_|refine pU ?_|refine pif ?_ ?_<;>intro h<;>try exact pN h)<;>push_cast [O,U])
  ·exact ⟨k+1,⟨by omega,hpre2 hq⟩,weak_slots (by push_cast [O,U]) rfl,by omega⟩
  ·exact ⟨_,rfl,by push_cast [O,U],k,.inr ⟨k,rfl,hlt,hq,hpre⟩,rfl,rfl⟩
 ·rw [List.take_of_length_le (by omega)] at hpre
  repeat' ((first|refine pG ?_|refine pQ ?_|refine pU ?_|refine pif ?_ ?_<;>intro h<;>try exact pN h)<;>push_cast [O,U])
  exact ⟨_,rfl,by push_cast [O,U],-1,.inl ⟨rfl,hpre⟩,rfl,rfl⟩
end Go.Proofs.YtmbbkfffcflfcaaGreatDoor
