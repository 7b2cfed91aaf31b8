/- What the program computes, and the plain laws of it, part 28. -/
import Derived.Test.YtcnoopjacilceaaGreatDoorQ27
namespace Go.Proofs.YtcnoopjacilceaaGreatDoor
attribute [local irreducible] PL QL PWPr PCalls Weak RetK Kontr PA
open Go.RowKit
open IntWalk renaming iteOmega → iO, toNatUp → tN
theorem hasp_pure (s p : ByteArray) : PCalls Tryz.prog 140 [.c (.v (.string s)), .c (.v (.string p))] [] fun r os => r = .c (.v (.bool (Lib.hasPrefix s.data.toList p.data.toList))) ∧ os = [] :=
  pcalls_plain [.string s, .string p] _ rfl fun w _ => (strings_HasPrefix s p w).mono fun e w' ⟨he, hw⟩ => by rw [he, hw]; exact ⟨rfl, Below.refl _ _⟩
structure HidM (X : Prop) : Prop where
  out : X
theorem meet {X Y : Prop} (f : HidM X → Y) (x : X) : Y := f ⟨x⟩
end Go.Proofs.YtcnoopjacilceaaGreatDoor
namespace Go.Proofs.YtcnoopjacilceaaGreatDoor
attribute [local irreducible] PL QL PWPr PCalls Weak RetK Kontr PA
open Go.RowKit
open IntWalk renaming iteOmega → iO, toNatUp → tN
set_option linter.unusedVariables false
set_option linter.unusedSimpArgs false
set_option maxRecDepth 20000
theorem slash_fit {n : Nat} (h : n ≤ 100000000) : ((⟨#[47]⟩ : ByteArray).size : Int) + (n : Int) ≤ 9223372036854775807 := by
  have : (⟨#[47]⟩ : ByteArray).size = 1 := rfl
  omega
theorem slash_fit2 {n : Nat} (h : n ≤ 100000000) : (n : Int) + ((⟨#[47]⟩ : ByteArray).size : Int) ≤ 9223372036854775807 := by
  have : (⟨#[47]⟩ : ByteArray).size = 1 := rfl
  omega
theorem texts_read {w : World} {I : Nat → Prop} : ∀ (l : List ByteArray) (vs : List Value), All2 (RD w I) (l.map strD).flatten vs → vs = l.map Value.string
  | [], vs, h => by simpa [All2.nil_l] using h
  | a :: l, vs, h => by
    simp only [List.map_cons, List.flatten_cons, strD, List.cons_append, List.nil_append] at h
    obtain ⟨y, vs', rfl, h5, h6⟩ := All2.cons_l.1 h
    rw [RD] at h5
    rw [h5.1, texts_read l vs' h6]; rfl
theorem sjoin_pure (ps : List ByteArray) (h0 : 0 < ps.length) (hN : ps.length ≤ 1000000) (hlen : (Lib.join (ps.map (·.data.toList)) [47]).length ≤ 140737488355328) :
    PCalls Tryz.prog 101 [.c (.sl 1 (ps.map strD)), .c (.v (.string (⟨#[47]⟩)))] [] fun r os => r = .c (.v (.string ⟨(Lib.join (ps.map (·.data.toList)) [47]).toArray⟩)) ∧ os = [] := by
  unfold PCalls
  intro Γ w xs hm hx
  obtain ⟨y, m', rfl, h1, h2⟩ := All2.cons_l.1 hx
  obtain ⟨z, m2, rfl, h3, h4⟩ := All2.cons_l.1 h2
  rw [All2.nil_l] at h4
  subst h4
  obtain ⟨A, c, cs, rfl, hc, hr, _, ha⟩ := rd_sl.1 h1
  have hcs := texts_read ps cs ha
  subst hcs
  rw [List.length_map] at hc hr
  obtain ⟨b, o, rfl, _, hb, hcell⟩ := hr.2 h0
  have hz : z = .string ⟨#[47]⟩ := h3.1
  subst hz
  have hl : (ps.map strD).length = ps.length := List.length_map _
  rw [hl]
  refine (strings_Join b o c ps ⟨#[47]⟩ w (fun j x hj => hcell j _ (by rw [List.getElem?_map, hj]; rfl)) hb (by omega) hc hlen).mono ?_
  rintro e w' ⟨rfl, hB⟩
  have hE := ext_of_below hB
  exact ⟨_, [], Γ, _, rfl, ⟨rfl, rfl⟩, ⟨rfl, rfl⟩, Nat.le_refl _, hm.same (Same.of_ext hE), ext_grow hE⟩
theorem join_joinL : ∀ ps : List (List UInt8), ps ≠ [] → 47 :: Lib.join ps [47] = joinL ps
  | [], h => absurd rfl h
  | p :: ps, _ => by
    rw [Lib.join_cons, joinL_cons]
    rfl
theorem joinL_len {B : Nat} : ∀ {ps : List (List UInt8)}, (∀ p ∈ ps, p.length ≤ B) → (joinL ps).length ≤ ps.length * (B + 1)
  | [], _ => by simp [joinL]
  | p :: ps, h => by
    have h1 := joinL_len fun q hq => h q (List.mem_cons_of_mem _ hq)
    have h2 := h p List.mem_cons_self
    rw [joinL_cons, List.length_cons, List.length_append, List.length_cons, Nat.add_mul]
    omega
theorem ba_ext {a b : ByteArray} (h : a.data.toList = b.data.toList) : a = b := by cases a; cases b; simp only at h; congr; exact Array.toList_inj.1 h
theorem rjoin_pure (ps : List ByteArray) (h0 : 0 < ps.length) (hN : ps.length ≤ 1000) (hz : ∀ p ∈ ps, p.size ≤ 1000) :
    PCalls Tryz.prog 67 [.c (.sl 1 (ps.map strD))] [] fun r os => r = .c (.v (.string (joinP ps))) ∧ os = [] := by
  have hL : (joinL (ps.map (·.data.toList))).length ≤ ps.length * 1001 := by
    have := joinL_len (B := 1000) (ps := ps.map (·.data.toList)) fun q hq => by obtain ⟨x, hx, rfl⟩ := List.mem_map.1 hq; exact hz x hx
    rwa [List.length_map] at this
  have hne : ps.map (·.data.toList) ≠ [] := fun h => by rw [List.map_eq_nil_iff] at h; subst h; simp at h0
  have hjj := join_joinL _ hne
  have hlen : (Lib.join (ps.map (·.data.toList)) [47]).length ≤ 140737488355328 := by
    have := congrArg List.length hjj
    rw [List.length_cons] at this
    omega
  have hc := sjoin_pure ps h0 (by omega) hlen
  obtain ⟨t, ht⟩ : ∃ t : ByteArray, (⟨(Lib.join (ps.map (·.data.toList)) [47]).toArray⟩ : ByteArray) = t := ⟨_, rfl⟩
  have he : ⟨#[47]⟩ ++ t = joinP ps := by
    apply ba_ext
    rw [joinP_list, ← hjj, ← ht]
    simp
  rw [ht] at hc
  have htz : t.size ≤ 1001000 := by
    rw [← ht]
    have := congrArg List.length hjj
    rw [List.length_cons] at this
    show (Lib.join (ps.map (·.data.toList)) [47]).toArray.size ≤ _
    rw [List.size_toArray]
    omega
  refine pcalls_of Tryz.func67 rfl (by simp [Tryz.ntmps67]) ?_
  rw [Tryz.ntmps67, Tryz.results67]
  push_cast [iO, tN]
  have hf := slash_fit (n := t.size) (by omega)
  repeat' (first | (refine plc [] (hc) ?_ ?_; push_cast [iO, tN, hf]; rintro r os ⟨rfl, rfl⟩; push_cast [iO, tN, hf]) | ((first | refine pG ?_ | refine pQ ?_ | refine pU ?_); push_cast [iO, tN, hf]) | (refine pif (fun h => ?_) (fun h => ?_) <;> first | exact pN h | push_cast [iO, tN, hf]))
  (refine retK_of [] ?_; push_cast [iO, tN, he])
theorem orig_size {l : List Dev} {B : Nat} (hz : ∀ d ∈ l, d.original.size ≤ B) (n : Int) : ∀ p ∈ origM l n, p.size ≤ B := fun p hp => by
  unfold origM at hp
  rw [List.mem_reverse] at hp
  obtain ⟨d, hd, rfl⟩ := List.mem_map.1 hp
  exact hz d (chainGo_mem _ _ d hd)
set_option maxHeartbeats 1000000 in
theorem rplace_pure (l : List Dev) (n : Int) (hl : l.length ≤ 1000) (hz : ∀ d ∈ l, d.original.size ≤ 1000) :
    PCalls Tryz.prog 30 [.agg (trE l), .c (.v (.int .i64 n))] [] fun r os => r = .c (.v (.string (placeM l n))) ∧ os = [] := by
  have hc := rorigin_pure l n (by omega)
  have hol := orig_len l n
  have hos := orig_size hz n
  unfold placeM
  obtain ⟨ps, hps⟩ : ∃ ps, origM l n = ps := ⟨_, rfl⟩
  rw [hps] at hc hol hos ⊢
  have htk := List.take_of_length_le (l := ps.map strD) (i := ps.length) (by simp)
  refine pcalls_of Tryz.func30 rfl (by simp [Tryz.ntmps30]) ?_
  rw [Tryz.ntmps30, Tryz.results30]
  push_cast [iO, tN]
  by_cases h0 : 0 < ps.length
  · have hj := rjoin_pure ps h0 (by omega) hos
    have h0' : (0 : Int) < (ps.length : Int) := by omega
    repeat' (first | (refine plc [] (hc) ?_ ?_; push_cast [iO, tN, h0', htk]; rintro r os ⟨rfl, rfl⟩; push_cast [iO, tN, h0', htk]) | (refine pl_call2 true [] rfl rfl (by kernel_rfl) (hj) ?_ ?_ ?_; push_cast [iO, tN, h0', htk]; (intro _ r os; rintro ⟨rfl, rfl⟩; push_cast [iO, tN, h0', htk]); rintro r os ⟨rfl, rfl⟩; refine pl_of_pops ?_; push_cast [iO, tN, h0', htk]) | ((first | refine pG ?_ | refine pQ ?_ | refine pU ?_); push_cast [iO, tN, h0', htk]) | (refine pif (fun h => ?_) (fun h => ?_) <;> first | exact pN h | push_cast [iO, tN, h0', htk]))
    (refine retK_of [] ?_; push_cast [iO, tN])
  · have he : ps = [] := List.eq_nil_of_length_eq_zero (by omega)
    subst he
    repeat' (first |  (refine plc [] (hc) ?_ ?_; push_cast [iO, tN]; rintro r os ⟨rfl, rfl⟩; push_cast [iO, tN])  | ((first | refine pG ?_ | refine pQ ?_ | refine pU ?_); push_cast [iO, tN]) | (refine pif (fun h => ?_) (fun h => ?_) <;> first | exact pN h | push_cast [iO, tN]))
    (refine retK_of [] ?_; push_cast [iO, tN])
    all_goals rfl
theorem atD_at {l : List Dev} {p : ByteArray} {k : Nat} (hk : k < l.length) (h0 : ∀ d ∈ l.take k, placeM l d.index ≠ p) (h : placeM l (l.getD k default).index = p) : atD l p = some (l.getD k default) := by
  rw [getD_lt l hk] at *
  unfold atD
  have e : l = l.take k ++ l[k] :: l.drop (k + 1) := by rw [← List.drop_eq_getElem_cons hk, List.take_append_drop]
  conv => lhs; arg 2; rw [e]
  rw [List.find?_append, List.find?_eq_none.2 (by simpa using h0), Option.none_or, List.find?_cons_of_pos (by simpa using h)]
theorem atD_none {l : List Dev} {p : ByteArray} (h : ∀ d ∈ l, placeM l d.index ≠ p) : atD l p = none := by
  unfold atD
  rw [List.find?_eq_none]
  simpa using h
set_option maxHeartbeats 1000000 in
theorem rat_pure (l : List Dev) (p : ByteArray) (hl : l.length ≤ 1000) (hz : ∀ d ∈ l, d.original.size ≤ 1000) :
    PCalls Tryz.prog 12 [.agg (trE l), .c (.v (.string p))] [] fun r os => r = .two (.agg ((atD l p).getD default).e) (.c (.v (.bool ((atD l p).isSome)))) ∧ os = [] := by
  refine pcalls_of Tryz.func12 rfl (by simp [Tryz.ntmps12]) ?_
  rw [Tryz.ntmps12, Tryz.results12]
  push_cast [iO, tN]
  have cB : CutB 7 [] := trivial
  repeat' (first | ((first | refine pC ?_ | refine pQC ?_ | refine pU ?_); push_cast [iO, tN]) | (refine pif (fun h => ?_) (fun h => ?_) <;> first | exact pN h | push_cast [iO, tN]))
  (apply pwp_loop3 (α := Nat) 7 [] (fun k => [(6, .c (.v (.int .i64 k)))]) (fun k => []) (fun k => k ≤ l.length ∧ ∀ d ∈ l.take k, placeM l d.index ≠ p) (fun k => l.length - k) (0); (focus ((try push_cast [iO, tN]); rfl)); (focus exact ⟨by omega, by simp⟩); (focus ((refine weak_fg ?_; try push_cast [iO, tN]))))
  rintro k ⟨hk, h0⟩
  push_cast [iO, tN]
  by_cases hlt : k < l.length
  · have hp := rplace_pure l (l.getD k default).index hl hz
    by_cases hn : placeM l (l.getD k default).index = p
    · have hg := atD_at hlt h0 hn
      have hn' := eq_true hn
      repeat' (first | ((refine ql_call2 false rfl rfl (by kernel_rfl) (hp) (fun r os h => h.1) rfl ?_ ?_; push_cast [iO, tN, hn']; refine ql_of_qops ?_; push_cast [iO, tN, hn'])) | ((first | refine pC ?_ | refine pQC ?_ | refine pU ?_); push_cast [iO, tN, hn']) | (refine pif (fun h => ?_) (fun h => ?_) <;> first | exact pN h | push_cast [iO, tN, hn']))
      (refine retK_of [] ?_; push_cast [iO, tN])
      all_goals rw [hg]
      all_goals exact ⟨⟨rfl, rfl, rfl, rfl, rfl, rfl, rfl, rfl, rfl, rfl⟩, rfl⟩
    · repeat' (first | ((refine ql_call2 false rfl rfl (by kernel_rfl) (hp) (fun r os h => h.1) rfl ?_ ?_; push_cast [iO, tN, hn]; refine ql_of_qops ?_; push_cast [iO, tN, hn])) | ((first | refine pC ?_ | refine pQC ?_ | refine pU ?_); push_cast [iO, tN, hn]) | (refine pif (fun h => ?_) (fun h => ?_) <;> first | exact pN h | push_cast [iO, tN, hn]))
      refine ⟨k + 1, ⟨by omega, fun d hd => ?_⟩, by (refine weak_fg ?_; push_cast [iO, tN]), by omega⟩
      rw [List.take_succ_eq_append_getElem hlt, List.mem_append, List.mem_singleton] at hd
      rcases hd with hd | hd
      · exact h0 d hd
      · rw [hd, ← getD_lt l hlt]; exact hn
  · rw [List.take_of_length_le (by omega)] at h0
    have hg := atD_none h0
    repeat' (first | ((first | refine pC ?_ | refine pQC ?_ | refine pU ?_); push_cast [iO, tN]) | (refine pif (fun h => ?_) (fun h => ?_) <;> first | exact pN h | push_cast [iO, tN]))
    (refine retK_of [] ?_; push_cast [iO, tN])
    all_goals rw [hg]
    all_goals exact ⟨⟨rfl, rfl, rfl, rfl, rfl, rfl, rfl, rfl, rfl, rfl⟩, rfl⟩
theorem idx_any {c : List Dev} {n : Int} : decide (0 ≤ idxI c n) = c.any fun d => decide (d.index = n) := by
  rcases idxI_find n c with ⟨h1, h2⟩ | ⟨i, h1, h2, h3⟩
  · rw [h1, decide_eq_false (by omega), eq_comm, List.any_eq_false]
    have := findD_none.1 h2
    simpa using this
  · rw [h1, decide_eq_true (by omega), eq_comm, List.any_eq_true]
    obtain ⟨h4, h5⟩ := findD_some h3
    exact ⟨_, h4, by simpa using h5⟩
theorem beneath_walk (a b : ByteArray) (ha : a.size ≤ 1000000) (w : World) :
    Calls Tryz.prog 119 #[.string a, .string b] w fun e w' => e = .returned (.bool (beneath a b)) ∧ w' = w := by
  have h := strings_HasPrefix b (a ++ ⟨#[47]⟩) w
  unfold beneath
  go_enter Tryz.func119, Tryz.ntmps119
  go_wp2_with (go_at_call 140; refine h.mono ?_; rintro e w' ⟨rfl, rfl⟩)
  go_ret
  exact ⟨rfl, rfl⟩
theorem rbeneath_pure (a b : ByteArray) (ha : a.size ≤ 1000000) : PCalls Tryz.prog 119 [.c (.v (.string a)), .c (.v (.string b))] [] fun r os => r = .c (.v (.bool (beneath a b))) ∧ os = [] :=
  pcalls_plain [.string a, .string b] _ rfl fun w _ => (beneath_walk a b ha w).mono fun e w' ⟨he, hw⟩ => by rw [he, hw]; exact ⟨rfl, Below.refl _ _⟩
end Go.Proofs.YtcnoopjacilceaaGreatDoor
namespace Go.Proofs.YtcnoopjacilceaaGreatDoor
open Go.RowKit
open IntWalk renaming iteOmega → iO, toNatUp → tN
set_option linter.unusedVariables false
set_option linter.unusedSimpArgs false
theorem run_append_out {P : Program} (w : World) (base : Nat) (t ty e : TypeId) (size bytes : Nat) (hT : SlT P t e size bytes)
    (ad : Addr) (n c0 : Nat) (xs : List Value) (hl : xs.length = n * size) (holds : ∀ j u, xs[j]? = some u → w.cell? (ad.add j) = some u) (R' : Nat → Prop) (A' : Option Addr) (m c : Nat) (news : List Value) (hr : Rd w R' size A' m news)
    (h0 : 0 < m) (hg : c0 < n + m) (h63 : n + m ≤ maxLen) (hbytes : (n + m) * bytes ≤ 140737488355328) (hbase : base ≤ w.heap.size) :
    ∃ v' w', (Builtin.append_ #[t, t] ty #[.slice (some ad) n c0, .slice A' m c]).run P w = .ok v' w' ∧ w'.ownsRow base e size v' (n + m) (xs ++ news) ∧ Ext No w w' := by
  obtain ⟨ht, ⟨i, z, hi, hz, hsize, hby, hzs⟩, hsz⟩ := hT
  subst hsize
  subst hby
  obtain ⟨b', o', rfl, hb', hlt', hc'⟩ := hr.2 h0
  have hsmall : n + m ≤ 9223372036854775807 := by simp only [maxLen] at h63; omega
  have hlen : (xs ++ news).length = (n + m) * i.size := by rw [List.length_append, hl, hr.1, Nat.add_mul]
  have hnews : ∀ j u, news[j]? = some u → w.cell? ((⟨b', o', none⟩ : Addr).add j) = some u := fun j u hu => by rw [Addr.add_lit]; exact hc' j u hu
  have grown : (w.drew.alloc (.cells (xs.toArray ++ news.toArray ++ Builtin.zeroCells z.cells (grownCap w (n + m) c0 e - (n + m))) e)).ownsRow base e i.size
        (.slice (some ⟨w.heap.size, 0, none⟩) (n + m) (grownCap w (n + m) c0 e)) (n + m) (xs ++ news) := by
    have hge := grownCap_ge w (n + m) c0 e
    have hcm : grownCap w (n + m) c0 e ≤ maxLen := grownCap_le_maxLen w (n + m) c0 e h63
    refine ⟨hlen, .inr ⟨w.heap.size, _, _, rfl, hbase, heap_alloc_new w.drew _, hge, hcm, ?_, ?_⟩⟩
    · simp only [Array.size_append, List.size_toArray, size_zeroCells, hzs, hl, hr.1, ← Nat.add_mul]
      congr 1
      omega
    · simp only [Array.toList_append, List.append_assoc]
      rw [← List.append_assoc, ← hlen]
      exact List.take_left
  have hrun := run_append_grow (P := P) w t ty e i z ht hi hz ad n c0 xs hl holds ⟨b', o', none⟩ m c news hr.1 hnews hg (by omega) (growslice_fits hg hbytes)
  exact ⟨_, _, hrun, grown, (Ext.refl No w).drew.alloc _⟩
theorem app_two {P : Program} {N p : Nat} {Γ : G} {s : S} {a : Act} {w : World} {o : Oper} {t e : TypeId} {sz by' : Nat} {x z : Operand} {k : Nat} {rows ys : List (List D)} (ho : o.op = .call { callee := .builtin .append, args := #[x, z], argTypes := #[t, t] })
    (hel : elOf P t = some (e, sz)) (hby : bytOf P e = some by') (hsz : 0 < sz) (hz : (zerOf P e).map List.length = some sz) (hx : s.ev x = some (.c (.own k rows.length))) (hk : s.o[k]? = some (.arr e sz rows))
    (hys : srcRows s.o sz (s.ev z) = some ys) (h0 : 0 < ys.length) (hb1 : ((rows.length : Int) + ys.length) * by' ≤ 140737488355328) (hb2 : (rows.length : Int) + ys.length ≤ 9223372036854775807) (hI : Inv N Γ s a w) (hp : p ≤ Γ.n) :
    AppOk P N p Γ s a w o (.c (.own k (rows.length + ys.length))) (s.o.set k (.arr e sz (rows ++ ys))) none ∨ AppOk P N p Γ s a w o (.c (.own s.o.length (rows.length + ys.length))) (s.o ++ [.arr e sz (rows ++ ys)]) none := by
  obtain ⟨hT, i, hu, hi⟩ := slT_of hel hby hsz hz
  obtain ⟨hyr, A, c, news, hzv, hrd, hnx⟩ := src_ok hI.m hys (fun q hq => S.ev_ok hq hI)
  have hone := rd_one hnx
  have hexec : ∀ (v v' : Value) (w' : World), a.eval x = v → (Builtin.append_ #[t, t] o.type #[v, .slice A ys.length c]).run P w = .ok v' w' → (execOp a.eval o).run P w = .ok (.value v') w' := by
    intro v v' w' hv hr
    simp only [execOp, ho, resolve, invoke, builtin, Sem.run_bind, Sem.run_pure, Result.andThen_ok, List.map_toArray, List.map_cons, List.map_nil, hv, hzv, hr]
  obtain ⟨hkn, hrep⟩ := S.ev_ok hx hI
  have hro := hI.m.ob k _ hk
  obtain ⟨g1, g2, g3, g4⟩ := hro
  have hrl : ∀ r ∈ rows ++ ys, r.length = sz := fun r hr => by
    rcases List.mem_append.1 hr with hr | hr
    · exact g1 r hr
    · exact hyr r hr
  have hbb : (rows.length + ys.length) * by' ≤ 140737488355328 := by have := hb1; rw [← Int.natCast_add, ← Int.natCast_mul] at this; omega
  have hmx : rows.length + ys.length ≤ maxLen := by simp only [maxLen]; omega
  rcases hrep with ⟨hc0, ⟨A0, hv⟩, hn0⟩ | ⟨hcp, hv, hnc⟩
  ·
    have hr0 : rows = [] := List.eq_nil_of_length_eq_zero hn0
    subst hr0
    right
    obtain ⟨v', w', hr, h2, h3⟩ := run_append_full (P := P) w w.heap.size t o.type e sz by' hT (fun _ => True) _ A0 0 [] ⟨by simp, fun h => absurd h (by omega)⟩ A ys.length c news hrd h0 (by simpa using hmx) (by simpa using hbb) (Nat.le_refl _)
    simp only [List.length_nil, Nat.zero_add, List.nil_append] at *
    exact app_new hI hp (hexec _ _ _ hv hr) h3 h2 (by omega) hsz hyr rfl (hnx.mono fun _ _ => RD.stay ((Same.of_ext h3).stay Γ.I) _ _)
  · obtain ⟨cur, q1, q2, q3, q4, q5⟩ := g4 hcp
    by_cases hroom : rows.length + ys.length ≤ Γ.cap k
    · left
      have hown : w.ownsRow 0 e sz (.slice (some ⟨Γ.β k, 0, none⟩) rows.length (Γ.cap k)) rows.length (cur.toList.take (rows.length * sz)) :=
        own_blk q1 (Nat.zero_le _) q2 hnc q4
      obtain ⟨v', w', hr, h2, h3, h5⟩ := run_append_rd (P := P) w 0 t o.type e sz by' hT _ _ _ hown _ A ys.length c news hrd hone hmx hbb (Nat.zero_le _)
      obtain ⟨b', o', hA, hb', hlt', hc'⟩ := hrd.2 h0
      obtain ⟨i2, hi2, hisz, hiby⟩ : ∃ i2, P.info? e = some i2 ∧ i2.size = sz ∧ i2.bytes = by' := by
        obtain ⟨_, ⟨i2, z2, h1, _, h3, h4, _⟩, _⟩ := hT
        exact ⟨i2, h1, h3, h4⟩
      have hfit : rows.length * i2.size + news.length ≤ cur.size := by rw [hisz, hrd.1, q2, ← Nat.add_mul]; exact Nat.mul_le_mul_right _ hroom
      have hrun2 := run_append_room (P := P) w t o.type e i2 hu hi2 (Γ.β k) rows.length (Γ.cap k) cur q1 ⟨b', o', none⟩ ys.length c news (by rw [hisz]; exact hrd.1) (fun j u hu => by rw [Addr.add_lit]; exact hc' j u hu) hone hroom hfit
      rw [hA] at hr
      rw [hrun2] at hr
      injection hr with hr1 hr2
      subst hr1
      have hE : Ext (fun i => i = Γ.β k) w w' := h3.mono fun j hj => by simp [Value.ownBlock] at hj; exact hj.symm
      have hs : Stay w Γ.I w' Γ.I := ⟨hE.size, fun i hi hl => hE.block i hl fun h2 => hI.m.off k hkn hcp (h2 ▸ hi), fun i hi => hi⟩
      obtain ⟨_, h2⟩ := h2
      have hblk : ∃ cur', Blk w' (Γ.β k) e cur' ∧ cur'.size = Γ.cap k * sz ∧ cur'.toList.take ((rows.length + ys.length) * sz) = cur.toList.take (rows.length * sz) ++ news := by
        rcases h2 with ⟨h2, _⟩ | ⟨g, cap, cur', h2, _, hg, _, _, hcs, htk⟩
        · cases h2
        · injection h2 with e1 e2 e3
          injection e1 with e1
          injection e1 with e1
          subst e1; subst e3
          exact ⟨cur', hg, hcs, htk⟩
      obtain ⟨cur', hb1', hcs, htk⟩ := hblk
      refine ⟨.slice (some ⟨Γ.β k, 0, none⟩) (rows.length + ys.length) (Γ.cap k), w', Γ, ?_, ⟨hkn, .inr ⟨hcp, rfl, hroom⟩⟩, ⟨hI.size, hI.defers, fun i q hq => ?_, ⟨by rw [hI.m.n, List.length_set], fun j o' ho' => ?_, hI.m.sep, hI.m.off, fun b hb => Nat.lt_of_lt_of_le (hI.m.lt b hb) hE.size, hI.m.pins hs⟩⟩, ⟨hE.mono fun i h1 => ⟨k, hkn, hcp, h1.symm⟩, fun _ h => h, fun j hj hc => .inl ⟨j, hj, hc, rfl⟩, fun _ h => .inl h, fun _ _ => ⟨rfl, rfl⟩⟩⟩
      · have := hexec _ _ _ hv (by rw [hA, hrun2])
        rw [this, hr2]
      · obtain ⟨i1, i2⟩ := hI.t i q hq
        exact ⟨i1, i2.stay hs fun j hj => ⟨i2.lt j hj, rfl, rfl⟩⟩
      · by_cases hjk : k = j
        · subst hjk
          have hkl : k < s.o.length := by rw [← hI.m.n]; exact hkn
          rw [List.getElem?_set_self hkl] at ho'
          cases ho'
          refine ⟨hrl, hsz, fun h => absurd h (by omega), fun _ => ⟨cur', hb1', hcs, by rw [List.length_append]; exact hroom, q4, ?_⟩⟩
          rw [List.length_append, htk, List.flatten_append]
          exact (q5.mono fun _ _ => RD.stay hs _ _).append (hnx.mono fun _ _ => RD.stay hs _ _)
        · rw [List.getElem?_set_ne hjk] at ho'
          have hj : j < Γ.n := by rw [hI.m.n]; exact (List.getElem?_eq_some_iff.1 ho').1
          exact (hI.m.ob j o' ho').stay hs (fun i hi => ⟨hi, rfl, rfl⟩) hj fun hcj => hE.block _ (mine_lt hI.m hj hcj) fun h => hjk (hI.m.sep k j hkn hj hcp hcj h.symm)
    · right
      have holds : ∀ j u, (cur.toList.take (rows.length * sz))[j]? = some u → w.cell? ((⟨Γ.β k, 0, none⟩ : Addr).add j) = some u := by
        intro j u hu
        rw [Addr.add_lit, Nat.zero_add, q1.cell]
        rw [List.getElem?_take] at hu
        split at hu
        · simpa using hu
        · cases hu
      have hxl : (cur.toList.take (rows.length * sz)).length = rows.length * sz := by
        rw [List.length_take]
        have hcz : cur.toList.length = cur.size := Array.length_toList
        rw [hcz, q2]
        exact Nat.min_eq_left (Nat.mul_le_mul_right _ hnc)
      obtain ⟨v', w', hr, h2, h3⟩ := run_append_out (P := P) w w.heap.size t o.type e sz by' hT ⟨Γ.β k, 0, none⟩ rows.length (Γ.cap k) _ hxl holds _ A ys.length c news hrd h0 (by omega) hmx hbb (Nat.le_refl _)
      refine app_new hI hp (hexec _ _ _ hv hr) h3 h2 (by omega) hsz hrl (by simp) ?_
      rw [List.flatten_append]
      exact (q5.append hnx).mono fun _ _ => RD.stay ((Same.of_ext h3).stay Γ.I) _ _
section
variable {P : Program} {N p : Nat} {ops : Array Oper} {rest : List Oper} {o : Oper} {s : S} {K : S → Prop}
theorem pl_app2 {t e : TypeId} {sz by' : Nat} {x z : Operand} (k : Nat) {rows ys : List (List D)} (ho : o.op = .call { callee := .builtin .append, args := #[x, z], argTypes := #[t, t] }) (hg : gd ops s o.guard = some true) (hd : dstOk N o.dst)
    (hel : elOf P t = some (e, sz)) (hby : bytOf P e = some by') (hsz : 0 < sz) (hz : (zerOf P e).map List.length = some sz) (hk : s.o[k]? = some (.arr e sz rows)) (hx : s.ev x = some (.c (.own k rows.length)))
    (hys : srcRows s.o sz (s.ev z) = some ys) (h0 : 0 < ys.length) (hb1 : ((rows.length : Int) + ys.length) * by' ≤ 140737488355328) (hb2 : (rows.length : Int) + ys.length ≤ 9223372036854775807)
    (hA : PL P N p ops rest (S.put ⟨s.t, s.o.set k (.arr e sz (rows ++ ys))⟩ o.dst (.c (.own k (rows.length + ys.length)))) K)
    (hB : PL P N p ops rest (S.put ⟨s.t, s.o ++ [.arr e sz (rows ++ ys)]⟩ o.dst (.c (.own s.o.length (rows.length + ys.length)))) K) : PL P N p ops (o :: rest) s K := by
  intro Γ a w Q hS hK
  rcases app_two (p := p) ho hel hby hsz hz hx hk hys h0 hb1 hb2 hS.inv hS.le with h | h
  · obtain ⟨y, w', Γ', h1, h2, h3, h4⟩ := h
    unfold wpListIn
    rw [if_pos (gd_ok hg hS.inv)]
    have hle : p ≤ Γ'.n := by have h5 := hS.le; rw [hS.inv.m.n] at h5; rw [h3.m.n, List.length_set]; exact h5
    exact wpIn_run h1 (hA Γ' _ w' Q ⟨Inv.put h3 (dst_lt hd) h2, hle⟩ fun s' Γ'' a' w'' hk ha hg' hd' => hK s' Γ'' a' w'' hk ha (h4.trans hg') (hd'.trans (put_defers _ _ _)))
  · obtain ⟨y, w', Γ', h1, h2, h3, h4⟩ := h
    unfold wpListIn
    rw [if_pos (gd_ok hg hS.inv)]
    have hle : p ≤ Γ'.n := by have h5 := hS.le; rw [hS.inv.m.n] at h5; rw [h3.m.n, List.length_append]; omega
    exact wpIn_run h1 (hB Γ' _ w' Q ⟨Inv.put h3 (dst_lt hd) h2, hle⟩ fun s' Γ'' a' w'' hk ha hg' hd' => hK s' Γ'' a' w'' hk ha (h4.trans hg') (hd'.trans (put_defers _ _ _)))
end
end Go.Proofs.YtcnoopjacilceaaGreatDoor
