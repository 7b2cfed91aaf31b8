/- What the program computes, and the plain laws of it, part 38. -/
import Derived.Shelf.Vars
import Derived.WideKeyEntry
import Derived.Lib.ItoaNum
import Derived.Test.YthhfpcbpiphfiaaGreatDoorR37
namespace Go.Proofs.YthhfpcbpiphfiaaGreatDoor
open Go.ChangeShapes Go.WideShapes Go.ChangeAt Go.RowKit
set_option linter.unusedVariables false
set_option linter.unusedSimpArgs false
theorem sh_ints:shOf Tryz.prog 30 27=some [.sl [.int .i64]]:=by kernel_rfl
theorem pinM_of {w:World} (h:w.ShapedOpen Tryz.prog):Pin w :=
 Go.Proofs.cell_of_shapedOpen_int (zero := #[.int .i64 0]) (t:=3) h (of_decide_eq_true (by kernel_rfl)) (by kernel_rfl) rfl (by kernel_rfl) (by kernel_rfl) Tryz.underlying3
theorem pinM_lt {w:World} (h:Pin w):0 < w.heap.size:=by
 obtain ⟨m,hm⟩:=h
 rcases Nat.eq_zero_or_pos w.heap.size with h0|h0
 ·rw [World.cell?,Array.getElem?_eq_none (by rw [h0];exact Nat.le_refl _)] at hm
  simp at hm
 ·exact h0
theorem pin_start {W:World} (hsh:W.ShapedOpen Tryz.prog):Pin W∧∀ b,PinB b → b < W.heap.size :=
 ⟨pinM_of hsh,fun b hb=>by have h:b=0:=hb;subst h;exact pinM_lt (pinM_of hsh)⟩
def shMod:List Sh:=[.str,.sl [.str],.sl [.str],.sl [.str],.sl [.str],.bool]
theorem strs_fit {rows:List (List D)} (h:∀ r ∈ rows,TR [.str] r):∃ l:List ByteArray,rows=l.map strD∧∀ s ∈ l,Fit s:=by
 induction rows with
 | nil=>exact ⟨[],rfl,fun s hs=>by cases hs⟩
 | cons r rows ih =>
  obtain ⟨l,rfl,hl⟩:=ih fun r' hr'=>h r' (by simp [hr'])
  have h1:=h r (by simp)
  simp only [TR,TD] at h1
  obtain ⟨_,_,rfl,⟨a,rfl,ha⟩,rfl⟩:=h1
  refine ⟨a :: l,rfl,fun s hs=>?_⟩
  rcases List.mem_cons.1 hs with rfl|hs
  ·simpa [Fit,maxLen] using ha
  ·exact hl s hs
theorem mods_of {rows:List (List D)} (h:∀ r ∈ rows,TR shMod r):∃ l:List Mod,rows=l.map Mod.d∧∀ m ∈ l,ModFit m:=by
 induction rows with
 | nil=>exact ⟨[],rfl,fun s hs=>by cases hs⟩
 | cons r rows ih =>
  obtain ⟨l,rfl,hl⟩:=ih fun r' hr'=>h r' (by simp [hr'])
  have h1:=h r (by simp)
  simp only [shMod,TR,TD] at h1
  obtain ⟨_,_,rfl,⟨a1,rfl,f1⟩,_,_,rfl,⟨w2,rfl,n2,t2⟩,_,_,rfl,⟨w3,rfl,n3,t3⟩,_,_,rfl,⟨w4,rfl,n4,t4⟩,_,_,rfl,⟨w5,rfl,n5,t5⟩,_,_,rfl,⟨b6,rfl⟩,rfl⟩:=h1
  obtain ⟨l2,rfl,g2⟩:=strs_fit (rows:=w2) fun r hr=>by have:=t2 r hr;simpa only [TR,TD] using this
  obtain ⟨l3,rfl,g3⟩:=strs_fit (rows:=w3) fun r hr=>by have:=t3 r hr;simpa only [TR,TD] using this
  obtain ⟨l4,rfl,g4⟩:=strs_fit (rows:=w4) fun r hr=>by have:=t4 r hr;simpa only [TR,TD] using this
  obtain ⟨l5,rfl,g5⟩:=strs_fit (rows:=w5) fun r hr=>by have:=t5 r hr;simpa only [TR,TD] using this
  refine ⟨⟨a1,l2,l3,l4,l5,b6⟩ :: l,rfl,fun m hm=>?_⟩
  rcases List.mem_cons.1 hm with rfl|hm
  ·rw [List.length_map] at n2 n3 n4 n5
   exact ⟨by simpa [Fit,maxLen] using f1,g2,g3,g4,g5,by simpa [maxLen] using n2,by simpa [maxLen] using n3,by simpa [maxLen] using n4,by simpa [maxLen] using n5⟩
  ·exact hl m hm
def shCfg:List Sh:=[.sl shMod,.sl [.str],.sl [.str],.sl [.str],.sl [.str,.str]]
theorem sh_cfg:shOf Tryz.prog 30 26=some shCfg:=by kernel_rfl
theorem ext_dec (r:List D) (h:TR [.str,.str] r):∃ x:Ext2,r=x.d:=by
 simp only [TR,TD] at h
 obtain ⟨_,_,rfl,⟨a,rfl,ha⟩,_,_,rfl,⟨b,rfl,hb⟩,rfl⟩:=h
 exact ⟨⟨a,b⟩,rfl⟩
theorem cfg_dec (ds:List D) (h:TR shCfg ds):∃ c:Cfg,ds.map D.e=c.e∧FitC c:=by
 unfold shCfg at h
 rw [TR] at h
 obtain ⟨d1,r1,rfl,h1,h⟩:=h
 rw [TR] at h
 obtain ⟨d2,r2,rfl,h2,h⟩:=h
 rw [TR] at h
 obtain ⟨d3,r3,rfl,h3,h⟩:=h
 rw [TR] at h
 obtain ⟨d4,r4,rfl,h4,h⟩:=h
 rw [TR] at h
 obtain ⟨d5,r5,rfl,h5,h⟩:=h
 rw [TR] at h
 subst h
 rw [TD] at h1 h2 h3 h4 h5
 obtain ⟨w1,rfl,n1,t1⟩:=h1
 obtain ⟨w2,rfl,n2,t2⟩:=h2
 obtain ⟨w3,rfl,n3,t3⟩:=h3
 obtain ⟨w4,rfl,n4,t4⟩:=h4
 obtain ⟨w5,rfl,n5,t5⟩:=h5
 obtain ⟨l1,rfl,g1⟩:=mods_of t1
 obtain ⟨l2,rfl,g2⟩:=strs_fit t2
 obtain ⟨l3,rfl,g3⟩:=strs_fit t3
 obtain ⟨l4,rfl,g4⟩:=strs_fit t4
 obtain ⟨l5,rfl⟩:=rows_of t5 ext_dec
 rw [List.length_map] at n1 n2 n3 n4 n5
 exact ⟨⟨l1,l2,l3,l4,l5⟩,rfl,⟨by simpa [maxLen] using n1,g1,by simpa [maxLen] using n2,by simpa [maxLen] using n3,by simpa [maxLen] using n4,by simpa [maxLen] using n5⟩⟩
end Go.Proofs.YthhfpcbpiphfiaaGreatDoor
