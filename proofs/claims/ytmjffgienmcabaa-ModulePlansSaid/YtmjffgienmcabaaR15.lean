/- What the program computes, and the plain laws of it, part 15. -/
import Derived.Shelf.Strings.Prefix
import Derived.Shelf.Slices.CompactS
import Derived.Shelf.Slices.Delete
import Derived.Shelf.SortM.Plain
import Derived.Shelf.SortM.SortNone
import Derived.Shelf.SlIter.Nil
import Derived.Test.YtmjffgienmcabaaProg
import Derived.Lib.IndexAny
import Derived.Test.YtmjffgienmcabaaR14
namespace Go.Proofs.Ytmjffgienmcabaa
open Go.Shelf
set_option maxHeartbeats 1000000
def lays99_ren:Go.Shelf.Ren:=⟨fun|99=>83|206=>85|n=>n,fun|9=>9|4=>4|3=>3|n=>n,fun|n=>n⟩
theorem lays99:Go.Proofs.Lays.n99 Try.prog lays99_ren:={
 mixed:=by kernel_rfl
 f99:=Try.func83.trans (congrArg some (by kernel_rfl))
 f206:=Try.func85.trans (congrArg some (by kernel_rfl))
 t3:=Try.underlying3
 a3:=Try.isAgg3
 z3:=Try.sizeOf3
 v3:=Try.zeroValue3
 t4:=Try.underlying4
 a4:=Try.isAgg4
 z4:=Try.sizeOf4
 v4:=Try.zeroValue4
 t9:=Try.underlying9
 a9:=Try.isAgg9
 z9:=Try.sizeOf9
 v9:=Try.zeroValue9 }
open Go.RowKit Go.Lib in
theorem strings_HasPrefix (s p:ByteArray) (w:World) :
  Calls Try.prog 83 #[.string s,.string p] w fun e w'=>e = .returned (.bool (Lib.hasPrefix s.data.toList p.data.toList))∧w'=w:=Any.strings_HasPrefix lays99 s p w
def lays194_ren:Go.Shelf.Ren:=⟨fun|194=>26|n=>n,fun|31=>23|9=>9|3=>3|4=>4|0=>0|n=>n,fun|n=>n⟩
theorem lays194:Go.Proofs.Lays.n194 Try.prog lays194_ren:={
 mixed:=by kernel_rfl
 f194:=Try.func26.trans (congrArg some (by kernel_rfl))
 t0:=Try.underlying0
 a0:=Try.isAgg0
 z0:=Try.sizeOf0
 v0:=Try.zeroValue0
 t3:=Try.underlying3
 a3:=Try.isAgg3
 z3:=Try.sizeOf3
 v3:=Try.zeroValue3
 t4:=Try.underlying4
 a4:=Try.isAgg4
 z4:=Try.sizeOf4
 v4:=Try.zeroValue4
 t9:=Try.underlying9
 a9:=Try.isAgg9
 z9:=Try.sizeOf9
 v9:=Try.zeroValue9
 t31:=Try.underlying23
 a31:=Try.isAgg23
 z31:=Try.sizeOf23
 v31:=Try.zeroValue23 }
open Go.RowKit Go.Lib Go.Sort in
theorem slices_Compact_string (blk off cap:Nat) (zs:List (List UInt8)) (w:World) (hH:Holds encStr w blk off zs.toArray) (hsz:zs.length≤9223372036854775807) (hcap:zs.length≤cap) :
  Calls Try.prog 26 #[.slice (some ⟨blk,off,none⟩) zs.length cap] w fun e w'=>e = .returned (.slice (some ⟨blk,off,none⟩) (Lib.compact zs).length cap)∧∃ q,w'=putRow encStr (Sort.ahead w q) blk off (Lib.compact zs++List.replicate (zs.length - (Lib.compact zs).length) []).toArray:=Any.slices_Compact_string lays194 blk off cap zs w hH hsz hcap
open Go.RowKit Go.Lib Go.Sort in
theorem slices_Compact_string_empty (a:Option Addr) (cap:Nat) (w:World) :
  Calls Try.prog 26 #[.slice a 0 cap] w fun e w'=>e = .returned (.slice a 0 cap)∧w'=w:=Any.slices_Compact_string_empty lays194 a cap w
def laysSlM6_f25_ren:Go.Shelf.Ren:=⟨fun|6=>25|8=>49|9=>48|19=>66|20=>67|21=>57|22=>58|23=>59|24=>60|25=>61|26=>62|27=>63|28=>64|29=>65|36=>72|31=>73|32=>74|37=>75|38=>76|39=>77|41=>80|n=>n,fun|27=>23|29=>9|3=>3|32=>95|26=>23|0=>0|44=>117|46=>119|4=>4|36=>110|35=>109|41=>114|5=>5|9=>9|53=>127|57=>131|63=>143|64=>144|n=>n,fun|n=>n⟩
theorem laysSlM6_f25:Go.Proofs.SlLaysM.n6 Try.prog laysSlM6_f25_ren:={
 mixed:=by kernel_rfl
 f6:=⟨Try.f25.name,by decide,Try.func25.trans (congrArg some (by kernel_rfl))⟩
 f8:=Try.func49.trans (congrArg some (by kernel_rfl))
 f9:=⟨Try.f48.name,by decide,Try.func48.trans (congrArg some (by kernel_rfl))⟩
 f19:=Try.func66.trans (congrArg some (by kernel_rfl))
 f20:=Try.func67.trans (congrArg some (by kernel_rfl))
 f21:=⟨Try.f57.name,by decide,Try.func57.trans (congrArg some (by kernel_rfl))⟩
 f22:=⟨Try.f58.name,by decide,Try.func58.trans (congrArg some (by kernel_rfl))⟩
 f23:=⟨Try.f59.name,by decide,Try.func59.trans (congrArg some (by kernel_rfl))⟩
 f24:=⟨Try.f60.name,by decide,Try.func60.trans (congrArg some (by kernel_rfl))⟩
 f25:=⟨Try.f61.name,by decide,Try.func61.trans (congrArg some (by kernel_rfl))⟩
 f26:=⟨Try.f62.name,by decide,Try.func62.trans (congrArg some (by kernel_rfl))⟩
 f27:=⟨Try.f63.name,by decide,Try.func63.trans (congrArg some (by kernel_rfl))⟩
 f28:=⟨Try.f64.name,by decide,Try.func64.trans (congrArg some (by kernel_rfl))⟩
 f29:=⟨Try.f65.name,by decide,Try.func65.trans (congrArg some (by kernel_rfl))⟩
 f31:=Try.func73.trans (congrArg some (by kernel_rfl))
 f32:=Try.func74.trans (congrArg some (by kernel_rfl))
 f36:=⟨Try.f72.name,by decide,Try.func72.trans (congrArg some (by kernel_rfl))⟩
 f37:=⟨Try.f75.name,by decide,Try.func75.trans (congrArg some (by kernel_rfl))⟩
 f38:=⟨Try.f76.name,by decide,Try.func76.trans (congrArg some (by kernel_rfl))⟩
 f39:=⟨Try.f77.name,by decide,Try.func77.trans (congrArg some (by kernel_rfl))⟩
 f41:=⟨Try.f80.name,by decide,Try.func80.trans (congrArg some (by kernel_rfl))⟩
 t0:=Try.underlying0
 a0:=Try.isAgg0
 z0:=Try.sizeOf0
 v0:=Try.zeroValue0
 t3:=Try.underlying3
 a3:=Try.isAgg3
 z3:=Try.sizeOf3
 v3:=Try.zeroValue3
 t4:=Try.underlying4
 a4:=Try.isAgg4
 z4:=Try.sizeOf4
 v4:=Try.zeroValue4
 t5:=Try.underlying5
 a5:=Try.isAgg5
 z5:=Try.sizeOf5
 v5:=Try.zeroValue5
 t9:=Try.underlying9
 a9:=Try.isAgg9
 z9:=Try.sizeOf9
 v9:=Try.zeroValue9
 t26:=Try.underlying23
 a26:=Try.isAgg23
 z26:=Try.sizeOf23
 v26:=Try.zeroValue23
 t27:=Try.underlying23
 a27:=Try.isAgg23
 z27:=Try.sizeOf23
 v27:=Try.zeroValue23
 t29:=Try.underlying9
 a29:=Try.isAgg9
 z29:=Try.sizeOf9
 v29:=Try.zeroValue9
 t32:=Try.underlying95
 a32:=Try.isAgg95
 z32:=Try.sizeOf95
 v32:=Try.zeroValue95
 t35:=Try.underlying109
 a35:=Try.isAgg109
 z35:=Try.sizeOf109
 v35:=Try.zeroValue109
 t36:=Try.underlying110
 a36:=Try.isAgg110
 z36:=Try.sizeOf110
 v36:=Try.zeroValue110
 t41:=Try.underlying114
 a41:=Try.isAgg114
 z41:=Try.sizeOf114
 v41:=Try.zeroValue114
 t44:=Try.underlying117
 a44:=Try.isAgg117
 z44:=Try.sizeOf117
 v44:=Try.zeroValue117
 t46:=Try.underlying119
 a46:=Try.isAgg119
 z46:=Try.sizeOf119
 v46:=Try.zeroValue119
 t53:=Try.underlying127
 a53:=Try.isAgg127
 z53:=Try.sizeOf127
 v53:=Try.zeroValue127
 t57:=Try.underlying131
 a57:=Try.isAgg131
 z57:=Try.sizeOf131
 v57:=Try.zeroValue131
 t63:=Try.underlying143
 a63:=Try.isAgg143
 z63:=Try.sizeOf143
 v63:=Try.zeroValue143
 t64:=Try.underlying144
 a64:=Try.isAgg144
 z64:=Try.sizeOf144
 v64:=Try.zeroValue144 }
open Go.Sort Go.RowKit in
theorem slices_Sort_string (blk off cap:Nat) (ss:List (List UInt8)) (w:World) (hH:Holds encStr w blk off ss.toArray) (hblk:blk < w.heap.size) (hsz:ss.length < 4611686018427387904) :
  Calls Try.prog 25 #[.slice (some ⟨blk,off,none⟩) ss.length cap] w fun e w' =>
   e = .returned (.tuple #[])∧∃ n os,w'=grow (putRow encStr (Sort.ahead w n) blk off (ss.mergeSort fun x y=>decide (x≤y)).toArray) os:=AnyM.slices_Sort_string laysSlM6_f25 blk off cap ss w hH hblk hsz
def keys44_ren:Go.Shelf.Ren:=⟨fun|7=>44|10=>53|n=>n,fun|23=>75|26=>9|3=>4|28=>84|0=>0|27=>83|33=>71|4=>4|n=>n,fun|n=>n⟩
theorem keys44:Go.Proofs.SlLaysZ.n7 Try.prog keys44_ren:={
 mixed:=by kernel_rfl
 f7:=⟨Try.f44.name,by decide,Try.func44.trans (congrArg some (by kernel_rfl))⟩
 f10:=⟨Try.f53.name,by decide,Try.func53.trans (congrArg some (by kernel_rfl))⟩
 t0:=Try.underlying0
 a0:=Try.isAgg0
 z0:=Try.sizeOf0
 v0:=Try.zeroValue0
 t4:=Try.underlying4
 a4:=Try.isAgg4
 z4:=Try.sizeOf4
 v4:=Try.zeroValue4
 t23:=Try.underlying75
 a23:=Try.isAgg75
 z23:=Try.sizeOf75
 v23:=Try.zeroValue75
 t26:=Try.underlying9
 a26:=Try.isAgg9
 z26:=Try.sizeOf9
 v26:=Try.zeroValue9
 t27:=Try.underlying83
 a27:=Try.isAgg83
 z27:=Try.sizeOf83
 v27:=Try.zeroValue83
 t28:=Try.underlying84
 a28:=Try.isAgg84
 z28:=Try.sizeOf84
 v28:=Try.zeroValue84
 t33:=Try.underlying71
 a33:=Try.isAgg71
 z33:=Try.sizeOf71
 v33:=Try.zeroValue71 }
def sorted43_ren:Go.Shelf.Ren:=⟨fun|6=>43|8=>52|9=>25|11=>68|13=>49|12=>48|23=>66|24=>67|14=>57|15=>58|16=>59|17=>60|18=>61|19=>62|20=>63|21=>64|22=>65|25=>72|26=>73|27=>74|28=>75|29=>76|30=>77|31=>80|n=>n,fun|26=>9|28=>84|24=>23|0=>0|3=>3|37=>95|48=>117|50=>119|4=>4|40=>110|39=>109|45=>114|5=>5|9=>9|51=>127|55=>131|57=>143|58=>144|33=>71|n=>n,fun|n=>n⟩
theorem sorted43:Go.Proofs.SlLaysZ.n6 Try.prog sorted43_ren:={
 mixed:=by kernel_rfl
 f6:=⟨Try.f43.name,by decide,Try.func43.trans (congrArg some (by kernel_rfl))⟩
 f8:=⟨Try.f52.name,by decide,Try.func52.trans (congrArg some (by kernel_rfl))⟩
 f11:=⟨Try.f68.name,by decide,Try.func68.trans (congrArg some (by kernel_rfl))⟩
 t0:=Try.underlying0
 a0:=Try.isAgg0
 z0:=Try.sizeOf0
 v0:=Try.zeroValue0
 t24:=Try.underlying23
 a24:=Try.isAgg23
 z24:=Try.sizeOf23
 v24:=Try.zeroValue23
 t26:=Try.underlying9
 a26:=Try.isAgg9
 z26:=Try.sizeOf9
 v26:=Try.zeroValue9
 t28:=Try.underlying84
 a28:=Try.isAgg84
 z28:=Try.sizeOf84
 v28:=Try.zeroValue84
 i26:=by kernel_rfl }
def sort25_ren:Go.Shelf.Ren:=⟨fun|6=>25|8=>49|9=>48|19=>66|20=>67|21=>57|22=>58|23=>59|24=>60|25=>61|26=>62|27=>63|28=>64|29=>65|36=>72|31=>73|32=>74|37=>75|38=>76|39=>77|41=>80|n=>n,fun|27=>23|29=>9|3=>3|32=>95|26=>23|0=>0|44=>117|46=>119|4=>4|36=>110|35=>109|41=>114|5=>5|9=>9|53=>127|57=>131|63=>143|64=>144|n=>n,fun|n=>n⟩
theorem sort25:Go.Proofs.SlLaysM.n6 Try.prog sort25_ren:={
 mixed:=by kernel_rfl
 f6:=⟨Try.f25.name,by decide,Try.func25.trans (congrArg some (by kernel_rfl))⟩
 f8:=Try.func49.trans (congrArg some (by kernel_rfl))
 f9:=⟨Try.f48.name,by decide,Try.func48.trans (congrArg some (by kernel_rfl))⟩
 f19:=Try.func66.trans (congrArg some (by kernel_rfl))
 f20:=Try.func67.trans (congrArg some (by kernel_rfl))
 f21:=⟨Try.f57.name,by decide,Try.func57.trans (congrArg some (by kernel_rfl))⟩
 f22:=⟨Try.f58.name,by decide,Try.func58.trans (congrArg some (by kernel_rfl))⟩
 f23:=⟨Try.f59.name,by decide,Try.func59.trans (congrArg some (by kernel_rfl))⟩
 f24:=⟨Try.f60.name,by decide,Try.func60.trans (congrArg some (by kernel_rfl))⟩
 f25:=⟨Try.f61.name,by decide,Try.func61.trans (congrArg some (by kernel_rfl))⟩
 f26:=⟨Try.f62.name,by decide,Try.func62.trans (congrArg some (by kernel_rfl))⟩
 f27:=⟨Try.f63.name,by decide,Try.func63.trans (congrArg some (by kernel_rfl))⟩
 f28:=⟨Try.f64.name,by decide,Try.func64.trans (congrArg some (by kernel_rfl))⟩
 f29:=⟨Try.f65.name,by decide,Try.func65.trans (congrArg some (by kernel_rfl))⟩
 f31:=Try.func73.trans (congrArg some (by kernel_rfl))
 f32:=Try.func74.trans (congrArg some (by kernel_rfl))
 f36:=⟨Try.f72.name,by decide,Try.func72.trans (congrArg some (by kernel_rfl))⟩
 f37:=⟨Try.f75.name,by decide,Try.func75.trans (congrArg some (by kernel_rfl))⟩
 f38:=⟨Try.f76.name,by decide,Try.func76.trans (congrArg some (by kernel_rfl))⟩
 f39:=⟨Try.f77.name,by decide,Try.func77.trans (congrArg some (by kernel_rfl))⟩
 f41:=⟨Try.f80.name,by decide,Try.func80.trans (congrArg some (by kernel_rfl))⟩
 t0:=Try.underlying0
 a0:=Try.isAgg0
 z0:=Try.sizeOf0
 v0:=Try.zeroValue0
 t3:=Try.underlying3
 a3:=Try.isAgg3
 z3:=Try.sizeOf3
 v3:=Try.zeroValue3
 t4:=Try.underlying4
 a4:=Try.isAgg4
 z4:=Try.sizeOf4
 v4:=Try.zeroValue4
 t5:=Try.underlying5
 a5:=Try.isAgg5
 z5:=Try.sizeOf5
 v5:=Try.zeroValue5
 t9:=Try.underlying9
 a9:=Try.isAgg9
 z9:=Try.sizeOf9
 v9:=Try.zeroValue9
 t26:=Try.underlying23
 a26:=Try.isAgg23
 z26:=Try.sizeOf23
 v26:=Try.zeroValue23
 t27:=Try.underlying23
 a27:=Try.isAgg23
 z27:=Try.sizeOf23
 v27:=Try.zeroValue23
 t29:=Try.underlying9
 a29:=Try.isAgg9
 z29:=Try.sizeOf9
 v29:=Try.zeroValue9
 t32:=Try.underlying95
 a32:=Try.isAgg95
 z32:=Try.sizeOf95
 v32:=Try.zeroValue95
 t35:=Try.underlying109
 a35:=Try.isAgg109
 z35:=Try.sizeOf109
 v35:=Try.zeroValue109
 t36:=Try.underlying110
 a36:=Try.isAgg110
 z36:=Try.sizeOf110
 v36:=Try.zeroValue110
 t41:=Try.underlying114
 a41:=Try.isAgg114
 z41:=Try.sizeOf114
 v41:=Try.zeroValue114
 t44:=Try.underlying117
 a44:=Try.isAgg117
 z44:=Try.sizeOf117
 v44:=Try.zeroValue117
 t46:=Try.underlying119
 a46:=Try.isAgg119
 z46:=Try.sizeOf119
 v46:=Try.zeroValue119
 t53:=Try.underlying127
 a53:=Try.isAgg127
 z53:=Try.sizeOf127
 v53:=Try.zeroValue127
 t57:=Try.underlying131
 a57:=Try.isAgg131
 z57:=Try.sizeOf131
 v57:=Try.zeroValue131
 t63:=Try.underlying143
 a63:=Try.isAgg143
 z63:=Try.sizeOf143
 v63:=Try.zeroValue143
 t64:=Try.underlying144
 a64:=Try.isAgg144
 z64:=Try.sizeOf144
 v64:=Try.zeroValue144 }
open Go.RowKit Go.Maps Go.Sort Go.Shelf in
theorem sorts43 (m:Nat):AnyZ.SortsIn Try.prog sorted43_ren Fence.wide m :=
 ⟨fun blk off cap ss W hH hblk hsz=>callsIn_wide.2 (AnyM.slices_Sort_string sort25 blk off cap ss W hH hblk hsz),
  fun p cap W=>callsIn_wide.2 (AnyM.slices_Sort_string_none sort25 p cap W)⟩
end Go.Proofs.Ytmjffgienmcabaa
namespace Go.Proofs.Ytmjffgienmcabaa
open Go.RowKit
open IntWalk renaming iteOmega → iO, toNatUp → tN
set_option linter.unusedVariables false
set_option linter.unusedSimpArgs false
def allSome:List (Option PV) → List PV → Prop
 | [],[]=>True
 | some q :: l,r :: m=>leP q r∧allSome l m
 | _,_=>False
theorem allSome_ok {w:World} {Γ:G}:∀ {l:List (Option PV)} {m:List PV} {ys:List Value},allSome l m → All2 (fun q y=>∀ r,q=some r → RP w Γ r y) l ys → All2 (RP w Γ) m ys
 | [],[],_,_,h=>by rw [All2.nil_l] at h ⊢;exact h
 | some q :: l,r :: m,y :: ys,h,hr=>⟨leP_ok h.1 (hr.1 q rfl),allSome_ok h.2 hr.2⟩
 | some _ :: _,_ :: _,[],_,hr=>hr.elim
 | [],_ :: _,_,h,_=>h.elim
 | none :: _,_,_,h,_=>h.elim
 | some _ :: _,[],_,h,_=>h.elim
section
variable {P:Program} {N p:Nat} {ops:Array Oper} {rest:List Oper} {o:Oper} {s:S} {K:S → Prop}
theorem pl_call_all {f:Operand} {args:Array Operand} {tys:Array TypeId} {g:FuncId} {ds:List D} {cap:List Nat} {args':List PV} {R:PV → List Ob → Prop}
  (ho:o.op = .call ⟨.value f,args,tys⟩) (hg:gd ops s o.guard=some true) (hf:s.ev f=some (.c (.fn (.func g) ds cap))) (hb:bodyOk P g=true) (hd:dstOk N o.dst)
  (ha:allSome (callArgs s ds args.toList cap) args') (hc:PCalls P g args' s.o R)
  (hK:∀ r os'',R r os'' → PL P N p ops rest (S.put ⟨s.t,os''⟩ o.dst r) K):PL P N p ops (o :: rest) s K:=by
 intro Γ a w Q hA hQ
 obtain ⟨xs,ys,hfv,hargs⟩:=callArgs_ok hA.inv hf args
 have hseen:=allSome_ok ha hargs
 unfold wpListIn
 rw [if_pos (gd_ok hg hA.inv)]
 refine wpIn_enter (run_enter ho hfv hb) ?_
 have:=hc _ w _ hA.inv.m hseen
 rw [Array.toArray_toList] at this
 refine this.mono ?_
 rintro e w' ⟨r,os'',Γ',y,rfl,hR,hr,hlen,hm',hgr⟩
 have hle:p≤s.o.length:=by rw [← hA.inv.m.n];exact hA.le
 have hag:∀ j,j < Γ.n → Agree Γ Γ' j:=fun j hj=>by
  have hj':j < s.o.length:=by rw [← hA.inv.m.n];exact hj
  exact ⟨by rw [hm'.n];omega,(hgr.keep j hj').1,(hgr.keep j hj').2⟩
 have hI:=hA.inv.heap hm' (hgr.stay hA.inv.m) hag
 refine ⟨y,rfl,hK r os'' hR Γ' _ w' Q ⟨hI.put (dst_lt hd) hr,by rw [hm'.n];omega⟩ fun s' Γ2 a2 w2 hk hA2 hg2 hd2=>hQ s' Γ2 a2 w2 hk hA2 ?_ (hd2.trans (put_defers _ _ _))⟩
 have hgp:Grow p Γ w Γ' w':=⟨hgr.ext,hgr.sub,hgr.new,hgr.imm,fun k hk=>hgr.keep k (by omega)⟩
 exact hgp.trans hg2
theorem weak_slots {s':S} (ht:subT s s'.t) (ho:s'.o=s.o):Weak N p s s':=by
 intro Γ a w hA
 refine ⟨Γ,⟨⟨hA.inv.size,hA.inv.defers,fun i q hq=>?_,by rw [ho];exact hA.inv.m⟩,hA.le⟩,Grow.refl _ _ _⟩
 obtain ⟨r,hr,hle⟩:=subT_look ht hq
 obtain ⟨i1,i2⟩:=hA.inv.t i r hr
 exact ⟨i1,leP_ok hle i2⟩
end
theorem weak_seg {N p:Nat} {s:S} (i:Nat) {k n:Nat} (sz:Nat) (hi:s.get i=some (.c (.own k n))):Weak N p s ⟨(i,.c (.seg k sz 0 n)) :: s.t,s.o⟩:=by
 intro Γ a w hA
 refine ⟨Γ,⟨⟨hA.inv.size,hA.inv.defers,fun j q hq=>?_,hA.inv.m⟩,hA.le⟩,Grow.refl _ _ _⟩
 simp only [S.get,look] at hq
 split at hq
 ·rename_i e
  subst e
  cases hq
  obtain ⟨h1,h2,h3⟩:=hA.inv.t j _ hi
  refine ⟨h1,h2,?_⟩
  rcases h3 with ⟨_,⟨A,h4⟩,rfl⟩|⟨h4,h5,h6⟩
  ·exact ⟨A,0,h4,Nat.le_refl _,fun h=>absurd h (by omega)⟩
  ·exact ⟨_,_,h5,h6,fun _=>⟨h4,by omega,by simp⟩⟩
 ·exact hA.inv.t j q hq
def RetA (P:Program) (rs:List ResultVar) (p:Nat) (R:PV → List Ob → Prop) (s:S):Prop:=∃ r,resP P s rs=some r∧p≤s.o.length∧R r s.o
def RetQA (P:Program) (rs:List ResultVar) (p:Nat) (R:PV → List Ob → Prop):Exit → S → Prop
 | .normal,s=>RetA P rs p R s
 | .ret,s=>RetA P rs p R s
 | _,_=>False
theorem RetQA_normal (P:Program) (rs:List ResultVar) (p:Nat) (R:PV → List Ob → Prop) (s:S):RetQA P rs p R .normal s=RetA P rs p R s:=rfl
theorem RetQA_ret (P:Program) (rs:List ResultVar) (p:Nat) (R:PV → List Ob → Prop) (s:S):RetQA P rs p R .ret s=RetA P rs p R s:=rfl
attribute [push_cast] RetQA_normal RetQA_ret allSome
theorem pcalls_of_all {P:Program} {g:FuncId} {fn:Func} {c:Code} {args:List PV} {os:List Ob} {R:PV → List Ob → Prop} (hf:P.funcs[g]? = some fn) (hb:fn.body=some c) (hn:args.length≤fn.ntmps)
  (h:PWP P fn.ntmps os.length c (RetQA P fn.results.toList os.length R) ⟨parT 0 args,os⟩):PCalls P g args os R:=by
 refine calls_pwp (T:=RetA P fn.results.toList os.length R) hf hb hn (fun e s hq=>?_) (fun s' Γ Γ' a' w w' ht hI hg=>?_) h
 ·cases e with
  | normal=>exact ⟨.inl rfl,hq⟩
  | ret=>exact ⟨.inr rfl,hq⟩
  | exit j=>exact hq.elim
  | goto l=>exact hq.elim
  | panic ch=>exact hq.elim
  | outgrown=>exact hq.elim
 ·obtain ⟨r,h1,h2,h3⟩:=ht
  obtain ⟨y,h8,h9⟩:=resP_ok hI h1
  exact ⟨y,h8,r,s'.o,Γ',h3,h9,h2,hI.m,hg⟩
end Go.Proofs.Ytmjffgienmcabaa
namespace Go.Proofs.Ytmjffgienmcabaa
attribute [local irreducible] PL QL PWPr PCalls Weak RetK Kontr PA
open Go.RowKit
open IntWalk renaming iteOmega → iO, toNatUp → tN
set_option linter.unusedVariables false
set_option linter.unusedSimpArgs false
set_option maxRecDepth 20000
abbrev boolE (b:Bool):E:=.v (.bool b)
theorem all_repl (m n:Nat) (x:Value):(List.replicate m (E.v x)).all (keyOk n)=true:=List.all_eq_true.2 fun e he=>by rw [List.eq_of_mem_replicate he];rfl
theorem plusL_nil (cs:List Bool):plusL cs []=cs:=rfl
theorem seeEs_repl (v:Bool) (os:List Ob) (ks:List Nat) (m:Nat) (x:Value):seeEs v os ks (List.replicate m (E.v x))=some (List.replicate m (E.v x)):=by
 have:=seeEs_mapv v os ks (fun _:Unit=>x) (List.replicate m ())
 simpa only [List.map_replicate] using this
attribute [push_cast] seeEs_repl all_repl plusL_nil List.drop_replicate Nat.sub_self List.replicate_zero List.append_nil
theorem drop_bools (cs:List Bool) (i:Nat) (hi:i < cs.length):(cs.map boolE).drop i = .v (.bool (cs.getD i false)) :: (cs.map boolE).drop (i+1):=by
 have h:i < (cs.map boolE).length:=by rw [List.length_map];exact hi
 rw [List.drop_eq_getElem_cons h,List.getElem_map,List.getD_eq_getElem?_getD,List.getElem?_eq_getElem hi];rfl
set_option maxRecDepth 20000
theorem noneS_rep:noneS.map boolE=List.replicate 127 (E.v (.bool false)):=List.map_replicate
set_option maxRecDepth 20000 in
set_option maxHeartbeats 1000000 in
theorem every_pure:PCalls Try.prog 81 [] [] fun r os=>r = .agg (everyL.map boolE)∧os=[]:=by
 refine pcalls_of Try.func81 rfl (by simp [Try.ntmps81]) ?_
 rw [Try.ntmps81,Try.results81]
 push_cast [-List.reduceReplicate,iO,tN]
 have cB:CutB 3 []:=trivial
 repeat' (first|((first|refine pC ?_|refine pQC ?_|refine pU ?_);push_cast [-List.reduceReplicate,iO,tN])|(refine pif (fun h=>?_) (fun h=>?_)<;>first|exact pN h|push_cast [-List.reduceReplicate,iO,tN]))
 (apply pwp_loop3 (α:=Nat) 3 [] (fun k=>[(2,.c (.v (.int .i64 (32+k))))]) (fun k=>[(1,.box 140 ((fillN noneS 32 k).map boolE))]) (fun k=>k≤95) (fun k=>95 - k) (0);(focus ((try push_cast [-List.reduceReplicate,iO,tN]);rfl));(focus exact (by omega));(focus ((refine weak_fg ?_;try push_cast [-List.reduceReplicate,iO,tN]);(try (exact leEs_refl _)))))
 intro k hk
 push_cast [-List.reduceReplicate,iO,tN]
 have hlen:(fillN noneS 32 k).length=127:=by rw [fillN_len];rfl
 by_cases hlt:k < 95
 ·repeat' (first|((first|refine pC ?_|refine pQC ?_|refine pU ?_);push_cast [-List.reduceReplicate,iO,tN,hlen])|(refine pif (fun h=>?_) (fun h=>?_)<;>first|exact pN h|push_cast [-List.reduceReplicate,iO,tN,hlen]))
  have hs2:(List.map boolE (fillN noneS 32 k)).set (32+k) (.v (.bool true))=(fillN noneS 32 (k+1)).map boolE:=by rw [fillN,List.map_set]
  have hk3:(32+(k:Int)+1)=32+((k:Int)+1):=by omega
  exact ⟨k+1,by omega,by (refine weak_fg ?_;push_cast [-List.reduceReplicate,iO,tN,hs2,hk3]),by omega⟩
 ·have hk2:k=95:=by omega
  subst hk2
  have hst:List.take 127 ((fillN noneS 32 95).map boolE)=everyL.map boolE:=List.take_of_length_le (by rw [List.length_map,hlen];exact Nat.le_refl _)
  repeat' (first|((first|refine pC ?_|refine pQC ?_|refine pU ?_);push_cast [-List.reduceReplicate,iO,tN,hlen])|(refine pif (fun h=>?_) (fun h=>?_)<;>first|exact pN h|push_cast [-List.reduceReplicate,iO,tN,hlen]))
  (refine retK_of [] ?_;push_cast [-List.reduceReplicate,iO,tN,hlen,hst])
  exact leEs_refl _
theorem byt_sub {p:ByteArray} {i:Nat} (k:Nat) (h:i≤p.size):(p.extract i p.size).data.toList.getD k 0=byt p (i+k):=by
 have e:(p.extract i p.size).data.toList=p.data.toList.drop i:=by rw [ByteArray.data_extract,Array.toList_extract,List.extract_eq_take_drop];exact List.take_of_length_le (by rw [List.length_drop];exact Nat.le_refl _)
 unfold byt
 rw [e,List.getD_eq_getElem?_getD,List.getElem?_drop,← List.getD_eq_getElem?_getD]
abbrev rdE (p:ByteArray) (i:Nat):List E:=[.v (.string p),.v (.int .i64 i)]
set_option maxRecDepth 20000 in
set_option maxHeartbeats 1000000 in
theorem member_none (p:ByteArray) (i:Nat) (cs:List Bool) (h:i=p.size) (hp:p.size≤1000000) :
  PCalls Try.prog 84 [.c (.ptr 0 0),.c (.ptr 1 0)] [.box 135 (rdE p i),.box 140 (cs.map boolE)] fun r os=>r = .c (.v (.bool false))∧os=[.box 135 (rdE p i),.box 140 (cs.map boolE)]:=by
 have hx:p.extract i p.size=⟨#[]⟩:=by
  apply ByteArray.ext
  rw [ByteArray.data_extract]
  exact Array.extract_empty_of_stop_le_start (by omega)
 have hx2:((⟨#[]⟩:ByteArray)=⟨#[]⟩)=True:=eq_self _
 refine pcalls_of Try.func84 rfl (by simp [Try.ntmps84]) ?_
 rw [Try.ntmps84,Try.results84]
 push_cast [-List.reduceReplicate,iO,tN]
 have cB:CutB 9 []:=trivial
 repeat' (first|((first|refine pC ?_|refine pQC ?_|refine pU ?_);push_cast [-List.reduceReplicate,iO,tN,hx])|(refine pif (fun h=>?_) (fun h=>?_)<;>first|exact pN h|push_cast [-List.reduceReplicate,iO,tN,hx]))
 (refine retK_of [0,1] ?_;push_cast [-List.reduceReplicate,iO,tN])
set_option maxRecDepth 20000 in
set_option maxHeartbeats 2000000 in
theorem member_pure (p:ByteArray) (i:Nat) (cs:List Bool) (h:i < p.size) (hp:p.size≤1000000) (hcs:cs.length=127) (hb:∀ k,byt p k≤126) :
  PCalls Try.prog 84 [.c (.ptr 0 0),.c (.ptr 1 0)] [.box 135 (rdE p i),.box 140 (cs.map boolE)] fun r os=>r = .c (.v (.bool (decide (byt p i≤memTo p i))))∧os=[.box 135 (rdE p (memAt p i)),.box 140 ((memS p i cs).map boolE)]:=by
 have hsz:(p.extract i p.size).size=p.size - i:=by rw [ByteArray.size_extract];omega
 have hx:¬ p.extract i p.size=⟨#[]⟩:=fun e=>by rw [e] at hsz;have:(0:Nat)=p.size - i:=hsz;omega
 have b0:(p.extract i p.size).data.toList.getD 0 0=byt p i:=byt_sub (p:=p) (i:=i) 0 (by omega)
 have b1:=byt_sub (p:=p) (i:=i) 1 (by omega)
 have b2:=byt_sub (p:=p) (i:=i) 2 (by omega)
 have g0:0 < (p.extract i p.size).size:=by omega
 refine pcalls_of Try.func84 rfl (by simp [Try.ntmps84]) ?_
 rw [Try.ntmps84,Try.results84]
 push_cast [-List.reduceReplicate,iO,tN]
 have cB:CutB 9 []:=trivial
 by_cases h2:i+2 < p.size
 case neg =>
  have h2':¬ (2:Int) < ((p.extract i p.size).size:Int):=by omega
  have hq:rngQ p i=false:=by unfold rngQ;rw [decide_eq_false h2];rfl
  have hm:memAt p i=i+1:=by unfold memAt;rw [hq];rfl
  have ht:memTo p i=byt p i:=by unfold memTo;rw [hq];rfl
  obtain ⟨A,hA⟩:∃ A,(byt p i).toNat=A:=⟨_,rfl⟩
  obtain ⟨T,hT⟩:∃ T,(memTo p i).toNat=T:=⟨_,rfl⟩
  have hAT:A=T:=by rw [← hA,← hT,ht]
  have hT1:T≤126:=by rw [← hAT,← hA];exact UInt8.le_iff_toNat_le.1 (hb i)
  repeat' (first|((first|refine pC ?_|refine pQC ?_|refine pU ?_);push_cast [-List.reduceReplicate,iO,tN,hx,g0,b0,h2',hA])|(refine pif (fun h=>?_) (fun h=>?_)<;>first|exact pN h|push_cast [-List.reduceReplicate,iO,tN,hx,g0,b0,h2',hA]))
  have hS:memS p i cs=fillN cs A (T+1 - A):=by unfold memS;rw [hA,hT]
  (apply pwp_loop3 (α:=Nat) 9 [] (fun k=>[(8,.c (.v (.int .u8 ((A+k:Nat):Int))))]) (fun k=>[(1,.box 140 ((fillN cs A k).map boolE))]) (fun k=>k≤T+1 - A) (fun k=>(T+1 - A) - k) (0);(focus ((try push_cast [-List.reduceReplicate,iO,tN]);rfl));(focus exact (by omega));(focus ((refine weak_fg ?_;try push_cast [-List.reduceReplicate,iO,tN]);(try (exact ⟨(Int.add_zero _).symm,leEs_refl _⟩)))))
  intro k hk
  push_cast [-List.reduceReplicate,iO,tN]
  have hlen:(fillN cs A k).length=127:=by rw [fillN_len,hcs]
  by_cases hlt:k < T+1 - A
  ·have hc:(A:Int)+(k:Int)≤(T:Int):=by omega
   repeat' (first|((first|refine pC ?_|refine pQC ?_|refine pU ?_);push_cast [-List.reduceReplicate,iO,tN,hlen,hc])|(refine pif (fun h=>?_) (fun h=>?_)<;>first|exact pN h|push_cast [-List.reduceReplicate,iO,tN,hlen,hc]))
   have hs2:(List.map boolE (fillN cs A k)).set (A+k) (.v (.bool true))=(fillN cs A (k+1)).map boolE:=by rw [fillN,List.map_set]
   have hk3:((A:Int)+(k:Int)+1)=(A:Int)+((k:Int)+1):=by omega
   exact ⟨k+1,by omega,by (refine weak_fg ?_;push_cast [-List.reduceReplicate,iO,tN,hs2,hk3]),by omega⟩
  ·have hk2:k=T+1 - A:=by omega
   have hc:¬ (A:Int)+(k:Int)≤(T:Int):=by omega
   repeat' (first|((first|refine pC ?_|refine pQC ?_|refine pU ?_);push_cast [-List.reduceReplicate,iO,tN,hlen,hc])|(refine pif (fun h=>?_) (fun h=>?_)<;>first|exact pN h|push_cast [-List.reduceReplicate,iO,tN,hlen,hc]))
   subst hk2
   (refine retK_of [0,1] ?_;push_cast [-List.reduceReplicate,iO,tN])
   refine ⟨decide_eq_decide.2 ?_,by rw [hm];push_cast;try rfl,by rw [hS];exact leEs_refl _⟩
   rw [UInt8.le_iff_toNat_le,hA,hT];omega
 have h2':(2:Int) < ((p.extract i p.size).size:Int):=by omega
 have g1:1 < (p.extract i p.size).size:=by omega
 have g2:2 < (p.extract i p.size).size:=by omega
 by_cases h3:byt p (i+1)=45
 case neg =>
  have h3':¬ (byt p (i+1)).toNat=45:=fun e=>h3 (UInt8.toNat_inj.1 e)
  have hq:rngQ p i=false:=by unfold rngQ;rw [beq_eq_false_iff_ne.2 h3];simp
  have hm:memAt p i=i+1:=by unfold memAt;rw [hq];rfl
  have ht:memTo p i=byt p i:=by unfold memTo;rw [hq];rfl
  obtain ⟨A,hA⟩:∃ A,(byt p i).toNat=A:=⟨_,rfl⟩
  obtain ⟨T,hT⟩:∃ T,(memTo p i).toNat=T:=⟨_,rfl⟩
  have hAT:A=T:=by rw [← hA,← hT,ht]
  have hT1:T≤126:=by rw [← hAT,← hA];exact UInt8.le_iff_toNat_le.1 (hb i)
  repeat' (first|((first|refine pC ?_|refine pQC ?_|refine pU ?_);push_cast [-List.reduceReplicate,iO,tN,hx,g0,b0,g1,b1,h2',hA,h3',h3])|(refine pif (fun h=>?_) (fun h=>?_)<;>first|exact pN h|push_cast [-List.reduceReplicate,iO,tN,hx,g0,b0,g1,b1,h2',hA,h3',h3]))
  have hS:memS p i cs=fillN cs A (T+1 - A):=by unfold memS;rw [hA,hT]
  (apply pwp_loop3 (α:=Nat) 9 [] (fun k=>[(8,.c (.v (.int .u8 ((A+k:Nat):Int))))]) (fun k=>[(1,.box 140 ((fillN cs A k).map boolE))]) (fun k=>k≤T+1 - A) (fun k=>(T+1 - A) - k) (0);(focus ((try push_cast [-List.reduceReplicate,iO,tN]);rfl));(focus exact (by omega));(focus ((refine weak_fg ?_;try push_cast [-List.reduceReplicate,iO,tN]);(try (exact ⟨(Int.add_zero _).symm,leEs_refl _⟩)))))
  intro k hk
  push_cast [-List.reduceReplicate,iO,tN]
  have hlen:(fillN cs A k).length=127:=by rw [fillN_len,hcs]
  by_cases hlt:k < T+1 - A
  ·have hc:(A:Int)+(k:Int)≤(T:Int):=by omega
   repeat' (first|((first|refine pC ?_|refine pQC ?_|refine pU ?_);push_cast [-List.reduceReplicate,iO,tN,hlen,hc])|(refine pif (fun h=>?_) (fun h=>?_)<;>first|exact pN h|push_cast [-List.reduceReplicate,iO,tN,hlen,hc]))
   have hs2:(List.map boolE (fillN cs A k)).set (A+k) (.v (.bool true))=(fillN cs A (k+1)).map boolE:=by rw [fillN,List.map_set]
   have hk3:((A:Int)+(k:Int)+1)=(A:Int)+((k:Int)+1):=by omega
   exact ⟨k+1,by omega,by (refine weak_fg ?_;push_cast [-List.reduceReplicate,iO,tN,hs2,hk3]),by omega⟩
  ·have hk2:k=T+1 - A:=by omega
   have hc:¬ (A:Int)+(k:Int)≤(T:Int):=by omega
   repeat' (first|((first|refine pC ?_|refine pQC ?_|refine pU ?_);push_cast [-List.reduceReplicate,iO,tN,hlen,hc])|(refine pif (fun h=>?_) (fun h=>?_)<;>first|exact pN h|push_cast [-List.reduceReplicate,iO,tN,hlen,hc]))
   subst hk2
   (refine retK_of [0,1] ?_;push_cast [-List.reduceReplicate,iO,tN])
   refine ⟨decide_eq_decide.2 ?_,by rw [hm];push_cast;try rfl,by rw [hS];exact leEs_refl _⟩
   rw [UInt8.le_iff_toNat_le,hA,hT];omega
 by_cases h4:byt p (i+2)=93
 case pos =>
  have hq:rngQ p i=false:=by unfold rngQ;rw [h4];simp
  have hm:memAt p i=i+1:=by unfold memAt;rw [hq];rfl
  have ht:memTo p i=byt p i:=by unfold memTo;rw [hq];rfl
  obtain ⟨A,hA⟩:∃ A,(byt p i).toNat=A:=⟨_,rfl⟩
  obtain ⟨T,hT⟩:∃ T,(memTo p i).toNat=T:=⟨_,rfl⟩
  have hAT:A=T:=by rw [← hA,← hT,ht]
  have hT1:T≤126:=by rw [← hAT,← hA];exact UInt8.le_iff_toNat_le.1 (hb i)
  repeat' (first|((first|refine pC ?_|refine pQC ?_|refine pU ?_);push_cast [-List.reduceReplicate,iO,tN,hx,g0,b0,g1,b1,g2,b2,h2',hA,h3,h4])|(refine pif (fun h=>?_) (fun h=>?_)<;>first|exact pN h|push_cast [-List.reduceReplicate,iO,tN,hx,g0,b0,g1,b1,g2,b2,h2',hA,h3,h4]))
  have hS:memS p i cs=fillN cs A (T+1 - A):=by unfold memS;rw [hA,hT]
  (apply pwp_loop3 (α:=Nat) 9 [] (fun k=>[(8,.c (.v (.int .u8 ((A+k:Nat):Int))))]) (fun k=>[(1,.box 140 ((fillN cs A k).map boolE))]) (fun k=>k≤T+1 - A) (fun k=>(T+1 - A) - k) (0);(focus ((try push_cast [-List.reduceReplicate,iO,tN]);rfl));(focus exact (by omega));(focus ((refine weak_fg ?_;try push_cast [-List.reduceReplicate,iO,tN]);(try (exact ⟨(Int.add_zero _).symm,leEs_refl _⟩)))))
  intro k hk
  push_cast [-List.reduceReplicate,iO,tN]
  have hlen:(fillN cs A k).length=127:=by rw [fillN_len,hcs]
  by_cases hlt:k < T+1 - A
  ·have hc:(A:Int)+(k:Int)≤(T:Int):=by omega
   repeat' (first|((first|refine pC ?_|refine pQC ?_|refine pU ?_);push_cast [-List.reduceReplicate,iO,tN,hlen,hc])|(refine pif (fun h=>?_) (fun h=>?_)<;>first|exact pN h|push_cast [-List.reduceReplicate,iO,tN,hlen,hc]))
   have hs2:(List.map boolE (fillN cs A k)).set (A+k) (.v (.bool true))=(fillN cs A (k+1)).map boolE:=by rw [fillN,List.map_set]
   have hk3:((A:Int)+(k:Int)+1)=(A:Int)+((k:Int)+1):=by omega
   exact ⟨k+1,by omega,by (refine weak_fg ?_;push_cast [-List.reduceReplicate,iO,tN,hs2,hk3]),by omega⟩
  ·have hk2:k=T+1 - A:=by omega
   have hc:¬ (A:Int)+(k:Int)≤(T:Int):=by omega
   repeat' (first|((first|refine pC ?_|refine pQC ?_|refine pU ?_);push_cast [-List.reduceReplicate,iO,tN,hlen,hc])|(refine pif (fun h=>?_) (fun h=>?_)<;>first|exact pN h|push_cast [-List.reduceReplicate,iO,tN,hlen,hc]))
   subst hk2
   (refine retK_of [0,1] ?_;push_cast [-List.reduceReplicate,iO,tN])
   refine ⟨decide_eq_decide.2 ?_,by rw [hm];push_cast;try rfl,by rw [hS];exact leEs_refl _⟩
   rw [UInt8.le_iff_toNat_le,hA,hT];omega
 have h4':¬ (byt p (i+2)).toNat=93:=fun e=>h4 (UInt8.toNat_inj.1 e)
 have hq:rngQ p i=true:=by unfold rngQ;rw [h3,decide_eq_true h2];simp [h4]
 have hm:memAt p i=i+3:=by unfold memAt;rw [hq];rfl
 have ht:memTo p i=byt p (i+2):=by unfold memTo;rw [hq];rfl
 obtain ⟨A,hA⟩:∃ A,(byt p i).toNat=A:=⟨_,rfl⟩
 obtain ⟨T,hT⟩:∃ T,(memTo p i).toNat=T:=⟨_,rfl⟩
 have hTT:(byt p (i+2)).toNat=T:=by rw [← hT,ht]
 have hT1:T≤126:=by rw [← hTT];exact UInt8.le_iff_toNat_le.1 (hb _)
 have hA1:A≤126:=by rw [← hA];exact UInt8.le_iff_toNat_le.1 (hb _)
 repeat' (first|((first|refine pC ?_|refine pQC ?_|refine pU ?_);push_cast [-List.reduceReplicate,iO,tN,hx,g0,b0,g1,b1,g2,b2,h2',hA,h3,h4,h4',hTT])|(refine pif (fun h=>?_) (fun h=>?_)<;>first|exact pN h|push_cast [-List.reduceReplicate,iO,tN,hx,g0,b0,g1,b1,g2,b2,h2',hA,h3,h4,h4',hTT]))
 have hS:memS p i cs=fillN cs A (T+1 - A):=by unfold memS;rw [hA,hT]
 (apply pwp_loop3 (α:=Nat) 9 [] (fun k=>[(8,.c (.v (.int .u8 ((A+k:Nat):Int))))]) (fun k=>[(1,.box 140 ((fillN cs A k).map boolE))]) (fun k=>k≤T+1 - A) (fun k=>(T+1 - A) - k) (0);(focus ((try push_cast [-List.reduceReplicate,iO,tN]);rfl));(focus exact (by omega));(focus ((refine weak_fg ?_;try push_cast [-List.reduceReplicate,iO,tN]);(try (exact ⟨(Int.add_zero _).symm,leEs_refl _⟩)))))
 intro k hk
 push_cast [-List.reduceReplicate,iO,tN]
 have hlen:(fillN cs A k).length=127:=by rw [fillN_len,hcs]
 by_cases hlt:k < T+1 - A
 ·have hc:(A:Int)+(k:Int)≤(T:Int):=by omega
  repeat' (first|((first|refine pC ?_|refine pQC ?_|refine pU ?_);push_cast [-List.reduceReplicate,iO,tN,hlen,hc])|(refine pif (fun h=>?_) (fun h=>?_)<;>first|exact pN h|push_cast [-List.reduceReplicate,iO,tN,hlen,hc]))
  have hs2:(List.map boolE (fillN cs A k)).set (A+k) (.v (.bool true))=(fillN cs A (k+1)).map boolE:=by rw [fillN,List.map_set]
  have hk3:((A:Int)+(k:Int)+1)=(A:Int)+((k:Int)+1):=by omega
  exact ⟨k+1,by omega,by (refine weak_fg ?_;push_cast [-List.reduceReplicate,iO,tN,hs2,hk3]),by omega⟩
 ·have hk2:k=T+1 - A:=by omega
  have hc:¬ (A:Int)+(k:Int)≤(T:Int):=by omega
  repeat' (first|((first|refine pC ?_|refine pQC ?_|refine pU ?_);push_cast [-List.reduceReplicate,iO,tN,hlen,hc])|(refine pif (fun h=>?_) (fun h=>?_)<;>first|exact pN h|push_cast [-List.reduceReplicate,iO,tN,hlen,hc]))
  subst hk2
  (refine retK_of [0,1] ?_;push_cast [-List.reduceReplicate,iO,tN])
  refine ⟨decide_eq_decide.2 ?_,by rw [hm];push_cast;try rfl,by rw [hS];exact leEs_refl _⟩
  rw [UInt8.le_iff_toNat_le,hA,hT];omega
end Go.Proofs.Ytmjffgienmcabaa
