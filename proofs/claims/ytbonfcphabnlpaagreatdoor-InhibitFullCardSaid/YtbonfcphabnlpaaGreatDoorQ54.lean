/- What the program computes, and the plain laws of it, part 54. -/
import Derived.Test.YtbonfcphabnlpaaGreatDoorQ41
namespace Go.Proofs.YtbonfcphabnlpaaGreatDoor
open Go.RowKit
open IntWalk renaming iteOmega → iO, toNatUp → tN
set_option linter.unusedVariables false
set_option linter.unusedSimpArgs false
def dvN (k : Nat) : ByteArray := ⟨#[100]⟩ ++ strOfNums [97 + ((k / 26 : Nat) : Int), 97 + ((k % 26 : Nat) : Int)]
def dvF (k : Nat) : Dev := ⟨1 + (k : Int), 0, dvN k, dvN k, ⟨#[115]⟩, ⟨#[]⟩, ⟨#[]⟩, 1, 0, []⟩
def xsF (i : Nat) : List Dev := (List.range i).map dvF
def pthF (k : Nat) : ByteArray := ⟨#[47]⟩ ++ dvN k
def lsF (i : Nat) : List Ihb := (List.range i).map fun (k : Nat) => (⟨1 + (k : Int), ⟨#[119, 104, 111]⟩, ⟨#[42]⟩, 9⟩ : Ihb)
def rsF (i : Nat) : List Req := (List.range i).map fun (k : Nat) => (⟨pthF k, 1 + (k : Int), 1⟩ : Req)
def stE (i j : Nat) : Inh := ⟨1 + ((min i 32 : Nat) : Int), lsF (min i 32), rsF (min j 32)⟩
theorem glob_all : globM ⟨#[42]⟩ = 0 := by
  have h : altsM ⟨#[42]⟩ = some [[starEl]] := by
    unfold altsM
    rw [altGo, dif_neg (by decide), if_neg (by decide), if_pos (by decide)]
    rw [altGo, dif_pos (by decide)]
    rfl
  unfold globM
  rw [h]
  rfl
theorem lsF_len (i : Nat) : (lsF i).length = i := by simp [lsF]
theorem rsF_len (i : Nat) : (rsF i).length = i := by simp [rsF]
theorem valid_who : validS ⟨#[119, 104, 111]⟩ = true := by decide +kernel
theorem addE_yes {i j : Nat} (h : i < 32) : addE (stE i j) ⟨#[119, 104, 111]⟩ ⟨#[42]⟩ = 0 := by
  unfold addE
  rw [glob_all, valid_who, if_neg (by simp), if_neg (by simp), if_neg]
  simp only [stE, lsF_len]
  omega
theorem addE_no {i j : Nat} (h : 32 ≤ i) : addE (stE i j) ⟨#[119, 104, 111]⟩ ⟨#[42]⟩ = 392 := by
  unfold addE
  rw [glob_all, valid_who, if_neg (by simp), if_neg (by simp), if_pos]
  simp only [stE, lsF_len]
  omega
theorem addM_yes {i j : Nat} (h : i < 32) : addM (stE i j) ⟨#[119, 104, 111]⟩ ⟨#[42]⟩ 9 = stE (i + 1) j := by
  unfold addM
  rw [if_pos (addE_yes h)]
  unfold stE
  rw [Nat.min_eq_left (by omega : i ≤ 32), Nat.min_eq_left (by omega : i + 1 ≤ 32)]
  simp only [Inh.mk.injEq]
  refine ⟨by omega, ?_, trivial⟩
  unfold lsF
  rw [List.range_succ, List.map_append]
  rfl
theorem stE_no {i j : Nat} (h : 32 ≤ i) : stE (i + 1) j = stE i j := by
  unfold stE
  rw [Nat.min_eq_right h, Nat.min_eq_right (show 32 ≤ i + 1 by omega)]
theorem stE_no2 {i j : Nat} (h : 32 ≤ j) : stE i (j + 1) = stE i j := by
  unfold stE
  rw [Nat.min_eq_right h, Nat.min_eq_right (show 32 ≤ j + 1 by omega)]
theorem insF_all : ((List.range 35).all fun i => decide (insErr (xsF i) (dvF i) = 0) && decide (insT (xsF i) (dvF i) = xsF (i + 1))) = true := by decide +kernel
theorem insF {i : Nat} (h : i < 35) : insErr (xsF i) (dvF i) = 0 ∧ insT (xsF i) (dvF i) = xsF (i + 1) := by
  have := List.all_eq_true.1 insF_all i (List.mem_range.2 h)
  simpa using this
theorem atF_all : ((List.range 35).all fun i => decide (atD (xsF (i + 1)) (pthF i) = some (dvF i))) = true := by decide +kernel
theorem atF {i : Nat} (h : i < 35) : atD (xsF (i + 1)) (pthF i) = some (dvF i) := by
  have := List.all_eq_true.1 atF_all i (List.mem_range.2 h)
  simpa using this
theorem rsF_all : ((List.range 35).all fun i => (rsF (min i 32)).all fun r => !decide (r.path = pthF i)) = true := by decide +kernel
theorem rsF_other {i : Nat} (h : i < 35) : ∀ r ∈ rsF (min i 32), r.path ≠ pthF i := fun r hr => by
  have := List.all_eq_true.1 (List.all_eq_true.1 rsF_all i (List.mem_range.2 h)) r hr
  simpa using this
theorem rsF_drop {i : Nat} (h : i < 35) : dropR (pthF i) (rsF (min i 32)) = rsF (min i 32) := by
  unfold dropR
  rw [List.filter_eq_self]
  intro r hr
  simpa using rsF_other h r hr
theorem takF {i j : Nat} (h : i < 35) : takenQ (stE j i) (pthF i) (dvF i) = false := by
  unfold takenQ
  rw [List.any_eq_false]
  intro r hr
  have := rsF_other h r hr
  simp [this]
theorem askE_yes {i j : Nat} (h : i < 32) : askE (stE j i) (xsF (i + 1)) (pthF i) = 0 := by
  unfold askE
  rw [atF (by omega)]
  simp only [takF (show i < 35 by omega)]
  rw [show (stE j i).reqs = rsF (min i 32) from rfl, rsF_drop (by omega), rsF_len, if_neg (by simp), if_neg (by omega)]
theorem askE_no {i j : Nat} (h : 32 ≤ i) (h2 : i < 35) : askE (stE j i) (xsF (i + 1)) (pthF i) = 392 := by
  unfold askE
  rw [atF (by omega)]
  simp only [takF (show i < 35 by omega)]
  rw [show (stE j i).reqs = rsF (min i 32) from rfl, rsF_drop (by omega), rsF_len, if_neg (by simp), if_pos (by omega)]
theorem askM_yes {i j : Nat} (h : i < 32) : askM (stE j i) (xsF (i + 1)) (pthF i) 1 = stE j (i + 1) := by
  unfold askM
  rw [if_pos (askE_yes h), atF (by omega), show (stE j i).reqs = rsF (min i 32) from rfl, rsF_drop (by omega)]
  unfold stE
  simp only [Inh.mk.injEq, true_and]
  rw [Nat.min_eq_left (by omega : i ≤ 32), Nat.min_eq_left (by omega : i + 1 ≤ 32)]
  unfold rsF
  rw [List.range_succ, List.map_append]
  rfl
theorem dvN_size (k : Nat) : (dvN k).size = 3 := by unfold dvN; rw [ByteArray.size_append, strOfNums_size]; rfl
theorem pthF_size (k : Nat) : (pthF k).size = 4 := by unfold pthF; rw [ByteArray.size_append, dvN_size]; rfl
theorem stE_ok {i j : Nat} : (stE i j).ok := by
  refine ⟨by simp only [stE]; omega, by simp only [stE]; omega, ?_, ?_, fun x hx => ?_, fun r hr => ?_⟩
  · simp only [stE, lsF_len]; omega
  · simp only [stE, rsF_len]; omega
  · simp only [stE, lsF] at hx
    obtain ⟨k, hk, rfl⟩ := List.mem_map.1 hx
    have := List.mem_range.1 hk
    exact ⟨⟨by simp only; omega, by simp only [stE]; omega⟩, ⟨by simp only; decide, by simp only; decide⟩, by simp only; decide, by simp only; decide⟩
  · simp only [stE, rsF] at hr
    obtain ⟨k, hk, rfl⟩ := List.mem_map.1 hr
    have := List.mem_range.1 hk
    exact ⟨⟨by simp only; decide, by simp only; decide⟩, by simp only [pthF_size]; decide, by simp only; omega, by simp only; omega⟩
theorem xsF_mem {i : Nat} {d : Dev} (h : d ∈ xsF i) : ∃ k, k < i ∧ d = dvF k := by
  unfold xsF at h
  obtain ⟨k, hk, rfl⟩ := List.mem_map.1 h
  exact ⟨k, List.mem_range.1 hk, rfl⟩
theorem xsF_len (i : Nat) : (xsF i).length = i := by simp [xsF]
theorem xsF_okp (i : Nat) : Okp (xsF i) := by
  refine ⟨fun d hd => ?_, ?_, fun k hk => ?_⟩
  · obtain ⟨k, _, rfl⟩ := xsF_mem hd
    show 1 ≤ 1 + (k : Int)
    omega
  · unfold xsF
    rw [List.map_map]
    unfold List.Nodup
    rw [List.pairwise_map]
    refine List.Pairwise.imp (fun {a b} h e => h ?_) (List.nodup_range (n := i))
    have : 1 + (a : Int) = 1 + (b : Int) := e
    omega
  · obtain ⟨j, _, e⟩ := xsF_mem (List.getElem_mem hk)
    rw [e]
    exact .inl rfl
theorem dvF_ok (k : Nat) : (dvF k).ok := by
  have h := dvN_size k
  have hf : Fit (dvN k) := fit_of (Nat.le_of_eq h) (by decide)
  refine ⟨hf, hf, ?_, ?_, ?_, ?_, ?_, ?_⟩
  · show (⟨#[115]⟩ : ByteArray).size ≤ 9223372036854775807; decide
  · show (⟨#[]⟩ : ByteArray).size ≤ 9223372036854775807; decide
  · show (⟨#[]⟩ : ByteArray).size ≤ 9223372036854775807; decide
  · intro x hx; cases hx
  · exact Nat.zero_le _
  · show (dvN k).size ≤ 1048576
    omega
end Go.Proofs.YtbonfcphabnlpaaGreatDoor
namespace Go.Proofs.YtbonfcphabnlpaaGreatDoor
open Go.RowKit
open IntWalk renaming iteOmega → iO, toNatUp → tN
set_option linter.unusedVariables false
set_option linter.unusedSimpArgs false
section
variable {P : Program} {N p : Nat} {ops : Array Oper} {rest : List Oper} {o : Oper} {s : S} {K : S → Prop}
theorem pl_same {q : PV} (hg : gd ops s o.guard = some true) (h : ∀ Γ a w, Inv N Γ s a w → ∃ y, RP w Γ q y ∧ ∀ w', Same w w' → (execOp a.eval o).run P w' = .ok (.value y) w') (hd : dstOk N o.dst) (hr : PL P N p ops rest (s.put o.dst q) K) : PL P N p ops (o :: rest) s K := by
  intro Γ a w Q hA hK
  obtain ⟨y, h1, h2⟩ := h Γ a w hA.inv
  unfold wpListIn
  rw [if_pos (gd_ok hg hA.inv)]
  exact wpIn_run (h2 w (Same.refl w)) (hr Γ _ w Q ⟨hA.inv.put (dst_lt hd) h1, hA.le⟩ fun s' Γ'' a' w'' hk ha hg' hd' => hK s' Γ'' a' w'' hk ha hg' (hd'.trans (put_defers _ _ _)))
theorem pl_min {x z : Operand} {ts : Array TypeId} {k : IntKind} {a b : Int} (ho : o.op = .call ⟨.builtin .min, #[x, z], ts⟩) (hg : gd ops s o.guard = some true) (hx : s.ev x = some (.c (.v (.int k a)))) (hz : s.ev z = some (.c (.v (.int k b)))) (hd : dstOk N o.dst)
    (hK : PL P N p ops rest (s.put o.dst (.c (.v (.int k (if b < a then b else a))))) K) : PL P N p ops (o :: rest) s K := by
  refine pl_same (q := .c (.v (.int k (if b < a then b else a)))) hg (fun Γ a' w hI => ?_) hd hK
  have h1 := S.ev_ok hx hI
  have h2 := S.ev_ok hz hI
  exact ⟨_, ⟨rfl, rfl⟩, fun w' _ => by simp [execOp, ho, resolve, invoke, builtin, Builtin.min_, Builtin.min2, h1.1, h2.1]⟩
theorem pl_lenmap {x : Operand} {t : TypeId} {k : Nat} {kk : Option IntKind} {e : TypeId} {ag : Bool} {es : List (MK × List D)} (ho : o.op = .call ⟨.builtin .len, #[x], #[t]⟩) (hg : gd ops s o.guard = some true) (hx : s.ev x = some (.c (.mp k))) (hm : mpOf P t = some (kk, e)) (hk : s.o[k]? = some (.map kk ag es)) (hd : dstOk N o.dst)
    (hK : PL P N p ops rest (s.put o.dst (.c (.v (.int .i64 (es.length : Int))))) K) : PL P N p ops (o :: rest) s K := by
  refine pl_same (q := .c (.v (.int .i64 (es.length : Int)))) hg (fun Γ a' w hI => ?_) hd hK
  have h1 := S.ev_ok hx hI
  obtain ⟨kt, hu, hku⟩ := mp_run hm
  obtain ⟨h0, ms, ck, hb, hM⟩ := hI.m.ob k _ hk
  have hlt : Γ.β k < w.heap.size := (Array.getElem?_eq_some_iff.1 hb).1
  have hl : es.length = ms.size := by rw [hM.rows.length]; exact Array.length_toList
  refine ⟨_, ⟨rfl, rfl⟩, fun w' hS => ?_⟩
  simp [execOp, ho, resolve, invoke, builtin, Builtin.len_, run_underlying hu, h1.2, MapKept.run_getObj_map ((hS.block _ hlt).trans hb), goInt, hl]
end
end Go.Proofs.YtbonfcphabnlpaaGreatDoor
namespace Go.Proofs.YtbonfcphabnlpaaGreatDoor
attribute [local irreducible] PL QL PWPr PCalls Weak RetK Kontr PA
open Go.RowKit
open IntWalk renaming iteOmega → iO, toNatUp → tN
set_option linter.unusedVariables false
set_option linter.unusedSimpArgs false
set_option maxRecDepth 20000
theorem stE_zero : stE 0 0 = ⟨1, [], []⟩ := rfl
theorem xsF_zero : xsF 0 = [] := rfl
theorem nums2_size (a b : Int) : (strOfNums [a, b]).size = 2 := strOfNums_size _
theorem dv_fold {i : Nat} {z : Int} (hz : z = (i : Int)) : (⟨#[100]⟩ : ByteArray) ++ strOfNums [97 + z / 26, 97 + z % 26] = dvN i := by
  subst hz
  unfold dvN
  rw [show ((i / 26 : Nat) : Int) = (i : Int) / 26 by omega, show ((i % 26 : Nat) : Int) = (i : Int) % 26 by omega]
theorem pth_fold (i : Nat) : (⟨#[47]⟩ : ByteArray) ++ dvN i = pthF i := rfl
theorem stE_ll (i j : Nat) : (stE i j).list.length = min i 32 := lsF_len _
theorem stE_rl (i j : Nat) : (stE i j).reqs.length = min j 32 := rsF_len _
set_option maxHeartbeats 8000000 in
set_option maxRecDepth 20000 in
theorem fullI_pure (v : Int) (hv1 : -9223372036854775808 ≤ v) (hv2 : v ≤ 9223372036854775807) :
    PCalls Tryz.prog 3 [.c (.v (.int .i64 v))] [] fun r os => r = .c (.v (.bool true)) ∧ os = [] := by
  have hF := fold_pure v 35 hv1 hv2 (by decide)
  have hFb := fold_bds v 35 (by decide)
  obtain ⟨n, hn⟩ : ∃ n : Nat, fold v 35 = (n : Int) := ⟨(fold v 35).toNat, by omega⟩
  rw [hn] at hF hFb
  refine pcalls_of Tryz.func3 rfl (by simp [Tryz.ntmps3]) ?_
  rw [Tryz.ntmps3, Tryz.results3]
  push_cast [iO, tN]
  have cB : CutB 12 [] := trivial
  repeat' (first |  ((refine plc [] (hF) ?_ ?_; push_cast [iO, tN]; rintro r os ⟨rfl, rfl⟩; push_cast [iO, tN]))  | ((first | refine pC ?_ | refine pQC ?_ | refine pU ?_); push_cast [iO, tN]) | (refine pif (fun h => ?_) (fun h => ?_) <;> first | exact pN h | push_cast [iO, tN]))
  (apply pwp_loop3 (α := Nat) 12 [] (fun i => [(5, .c (.v (.int .i64 i)))]) (fun i => [(0, .box 25 (stE i i).e), (1, .box 29 (trE (xsF i)))]) (fun i => i ≤ n) (fun i => n - i) (0); (focus ((try push_cast [iO, tN]); rfl)); (focus exact (Nat.zero_le _)); (focus ((refine weak_fg ?_; try push_cast [iO, tN]); (try (simp [stE_zero, xsF_zero, Inh.e, trE])))))
  intro i hi
  push_cast [iO, tN]
  obtain ⟨z, hz⟩ : ∃ z : Int, z = (i : Int) := ⟨_, rfl⟩
  rw [← hz]
  by_cases hlt : i < n
  · have hx := rins_pure (xsF i) (dvF i) (dvF_ok i) (by show (dvN i).size ≤ 100000; rw [dvN_size]; decide) (fun d hd => by obtain ⟨k, _, rfl⟩ := xsF_mem hd; show (dvN k).size ≤ 100000; rw [dvN_size]; decide) (by rw [xsF_len]; omega)
    rw [(insF (show i < 35 by omega)).1, (insF (show i < 35 by omega)).2, if_pos rfl] at hx
    simp only [dvF, Dev.e, Dev.w, ← hz] at hx
    have hA := add_pure (stE i i) ⟨#[119, 104, 111]⟩ ⟨#[42]⟩ 9 stE_ok (by decide) (by decide)
    have hB := ask_pure (stE (i + 1) i) (xsF (i + 1)) (pthF i) 1 stE_ok (xsF_okp _) (by rw [xsF_len]; omega) (fun d hd => by obtain ⟨k, _, rfl⟩ := xsF_mem hd; show (dvN k).size ≤ 1000; rw [dvN_size]; decide) (fun d hd => by obtain ⟨k, _, rfl⟩ := xsF_mem hd; exact Nat.zero_le _)
    have f1 := dv_fold hz
    have f2 := pth_fold i
    have f3 := dvN_size i
    have f4 : (⟨#[100]⟩ : ByteArray).size = 1 := rfl
    have f5 : (⟨#[47]⟩ : ByteArray).size = 1 := rfl
    by_cases h32 : i < 32
    · rw [addM_yes h32, addE_yes h32, if_pos rfl] at hA
      rw [askM_yes h32, askE_yes h32] at hB
      repeat' (first | ((refine plc [] (hA) ?_ ?_; push_cast [iO, tN, f1, f2, f3, f4, f5, nums2_size]; rintro r os ⟨rfl, rfl⟩; push_cast [iO, tN, f1, f2, f3, f4, f5, nums2_size])) | ((refine plc [] (hx) ?_ ?_; push_cast [iO, tN, f1, f2, f3, f4, f5, nums2_size]; rintro r os ⟨rfl, rfl⟩; push_cast [iO, tN, f1, f2, f3, f4, f5, nums2_size])) | ((refine plc [] (hB) ?_ ?_; push_cast [iO, tN, f1, f2, f3, f4, f5, nums2_size]; rintro r os ⟨rfl, rfl⟩; push_cast [iO, tN, f1, f2, f3, f4, f5, nums2_size])) | ((first | refine pC ?_ | refine pQC ?_ | refine pU ?_); push_cast [iO, tN, f1, f2, f3, f4, f5, nums2_size]) | (refine pif (fun h => ?_) (fun h => ?_) <;> first | exact pN h | push_cast [iO, tN, f1, f2, f3, f4, f5, nums2_size]))
      exact ⟨i + 1, by omega, by (refine weak_fg ?_; push_cast [iO, tN, hz]), by omega⟩
    · have hm : addM (stE i i) ⟨#[119, 104, 111]⟩ ⟨#[42]⟩ 9 = ⟨0, [], []⟩ := by unfold addM; rw [addE_no (by omega), if_neg (by decide)]
      have hm2 : askM (stE (i + 1) i) (xsF (i + 1)) (pthF i) 1 = ⟨0, [], []⟩ := by unfold askM; rw [askE_no (by omega) (by omega), if_neg (by decide)]
      rw [hm, addE_no (by omega), if_neg (by decide)] at hA
      rw [hm2, askE_no (by omega) (by omega), stE_no (by omega)] at hB
      have hs : stE (i + 1) (i + 1) = stE i i := by rw [stE_no (by omega), stE_no2 (by omega)]
      repeat' (first | ((refine plc [] (hA) ?_ ?_; push_cast [iO, tN, f1, f2, f3, f4, f5, nums2_size]; rintro r os ⟨rfl, rfl⟩; push_cast [iO, tN, f1, f2, f3, f4, f5, nums2_size])) | ((refine plc [] (hx) ?_ ?_; push_cast [iO, tN, f1, f2, f3, f4, f5, nums2_size]; rintro r os ⟨rfl, rfl⟩; push_cast [iO, tN, f1, f2, f3, f4, f5, nums2_size])) | ((refine plc [] (hB) ?_ ?_; push_cast [iO, tN, f1, f2, f3, f4, f5, nums2_size]; rintro r os ⟨rfl, rfl⟩; push_cast [iO, tN, f1, f2, f3, f4, f5, nums2_size])) | ((first | refine pC ?_ | refine pQC ?_ | refine pU ?_); push_cast [iO, tN, f1, f2, f3, f4, f5, nums2_size]) | (refine pif (fun h => ?_) (fun h => ?_) <;> first | exact pN h | push_cast [iO, tN, f1, f2, f3, f4, f5, nums2_size]))
      exact ⟨i + 1, by omega, by (refine weak_fg ?_; push_cast [iO, tN, hs, hz]), by omega⟩
  · have hin : i = n := by omega
    subst hin
    by_cases h32 : 32 < i
    · have hm : min i 32 = 32 := by omega
      repeat' (first | (refine pl_min rfl rfl rfl rfl (by push_cast [iO, tN, hm, stE_ll, stE_rl]) ?_; refine pl_of_pops ?_; push_cast [iO, tN, hm, stE_ll, stE_rl]) | ((refine plc [] (known_pure) ?_ ?_; push_cast [iO, tN, hm, stE_ll, stE_rl]; rintro r os ⟨rfl, rfl⟩; push_cast [iO, tN, hm, stE_ll, stE_rl])) | ((first | refine pC ?_ | refine pQC ?_ | refine pU ?_); push_cast [iO, tN, hm, stE_ll, stE_rl]) | (refine pif (fun h => ?_) (fun h => ?_) <;> first | exact pN h | push_cast [iO, tN, hm, stE_ll, stE_rl]))
      (refine retK_of [] ?_; push_cast [iO, tN])
    · have hm : min i 32 = i := by omega
      repeat' (first | (refine pl_min rfl rfl rfl rfl (by push_cast [iO, tN, hm, stE_ll, stE_rl]) ?_; refine pl_of_pops ?_; push_cast [iO, tN, hm, stE_ll, stE_rl]) | ((refine plc [] (known_pure) ?_ ?_; push_cast [iO, tN, hm, stE_ll, stE_rl]; rintro r os ⟨rfl, rfl⟩; push_cast [iO, tN, hm, stE_ll, stE_rl])) | ((first | refine pC ?_ | refine pQC ?_ | refine pU ?_); push_cast [iO, tN, hm, stE_ll, stE_rl]) | (refine pif (fun h => ?_) (fun h => ?_) <;> first | exact pN h | push_cast [iO, tN, hm, stE_ll, stE_rl]))
      (refine retK_of [] ?_; push_cast [iO, tN])
end Go.Proofs.YtbonfcphabnlpaaGreatDoor
