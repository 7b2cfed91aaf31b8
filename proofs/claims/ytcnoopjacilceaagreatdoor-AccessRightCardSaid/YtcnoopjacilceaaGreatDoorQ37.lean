/- What the program computes, and the plain laws of it, part 37. -/
import Derived.Test.YtcnoopjacilceaaGreatDoorQ34
import Derived.Test.YtcnoopjacilceaaGreatDoorQ36
namespace Go.Proofs.YtcnoopjacilceaaGreatDoor
open Go.RowKit
open IntWalk renaming iteOmega → iO, toNatUp → tN
set_option linter.unusedVariables false
set_option linter.unusedSimpArgs false
section
variable {P : Program} {N p : Nat} {ops : Array Oper} {rest : List Oper} {o : Oper} {s : S} {K : S → Prop}
theorem pl_same {q : PV} (hg : gd ops s o.guard = some true) (h : ∀ Γ a w, Inv N Γ s a w → ∃ y, RP w Γ q y ∧ ∀ w', Same w w' → (execOp a.eval o).run P w' = .ok (.value y) w') (hd : dstOk N o.dst) (hr : PL P N p ops rest (s.put o.dst q) K) : PL P N p ops (o :: rest) s K := by
  intro Γ a w Q hA hK
  obtain ⟨y, h1, h2⟩ := h Γ a w hA.inv
  unfold wpListIn
  rw [if_pos (gd_ok hg hA.inv)]
  exact wpIn_run (h2 w (Same.refl w)) (hr Γ _ w Q ⟨hA.inv.put (dst_lt hd) h1, hA.le⟩ fun s' Γ'' a' w'' hk ha hg' hd' => hK s' Γ'' a' w'' hk ha hg' (hd'.trans (put_defers _ _ _)))
theorem pl_min {x z : Operand} {ts : Array TypeId} {k : IntKind} {a b : Int} (ho : o.op = .call ⟨.builtin .min, #[x, z], ts⟩) (hg : gd ops s o.guard = some true) (hx : s.ev x = some (.c (.v (.int k a)))) (hz : s.ev z = some (.c (.v (.int k b)))) (hd : dstOk N o.dst)
    (hK : PL P N p ops rest (s.put o.dst (.c (.v (.int k (if b < a then b else a))))) K) : PL P N p ops (o :: rest) s K := by
  refine pl_same (q := .c (.v (.int k (if b < a then b else a)))) hg (fun Γ a' w hI => ?_) hd hK
  have h1 := S.ev_ok hx hI
  have h2 := S.ev_ok hz hI
  exact ⟨_, ⟨rfl, rfl⟩, fun w' _ => by simp [execOp, ho, resolve, invoke, builtin, Builtin.min_, Builtin.min2, h1.1, h2.1]⟩
theorem pl_lenmap {x : Operand} {t : TypeId} {k : Nat} {kk : Option IntKind} {e : TypeId} {ag : Bool} {es : List (MK × List D)} (ho : o.op = .call ⟨.builtin .len, #[x], #[t]⟩) (hg : gd ops s o.guard = some true) (hx : s.ev x = some (.c (.mp k))) (hm : mpOf P t = some (kk, e)) (hk : s.o[k]? = some (.map kk ag es)) (hd : dstOk N o.dst)
    (hK : PL P N p ops rest (s.put o.dst (.c (.v (.int .i64 (es.length : Int))))) K) : PL P N p ops (o :: rest) s K := by
  refine pl_same (q := .c (.v (.int .i64 (es.length : Int)))) hg (fun Γ a' w hI => ?_) hd hK
  have h1 := S.ev_ok hx hI
  obtain ⟨kt, hu, hku⟩ := mp_run hm
  obtain ⟨h0, ms, ck, hb, hM⟩ := hI.m.ob k _ hk
  have hlt : Γ.β k < w.heap.size := (Array.getElem?_eq_some_iff.1 hb).1
  have hl : es.length = ms.size := by rw [hM.rows.length]; exact Array.length_toList
  refine ⟨_, ⟨rfl, rfl⟩, fun w' hS => ?_⟩
  simp [execOp, ho, resolve, invoke, builtin, Builtin.len_, run_underlying hu, h1.2, MapKept.run_getObj_map ((hS.block _ hlt).trans hb), goInt, hl]
theorem pl_appnil {t e : TypeId} {sz by' : Nat} {x z : Operand} {l : List (List D)} (ho : o.op = .call { callee := .builtin .append, args := #[x, z], argTypes := #[t, t] }) (hg : gd ops s o.guard = some true) (hx : s.ev x = some (.c (.full sz l))) (hys : srcRows s.o sz (s.ev z) = some []) (hel : elOf P t = some (e, sz)) (hby : bytOf P e = some by') (hsz : 0 < sz) (hz : (zerOf P e).map List.length = some sz) (hl : 0 < l.length) (hd : dstOk N o.dst)
    (hK : PL P N p ops rest (s.put o.dst (.c (.full sz l))) K) : PL P N p ops (o :: rest) s K := by
  refine pl_same (q := .c (.full sz l)) hg (fun Γ a w hI => ?_) hd hK
  obtain ⟨hT, i, hu, hi⟩ := slT_of hel hby hsz hz
  obtain ⟨hyr, A, c, news, hzv, hrd, hnx⟩ := src_ok hI.m hys (fun q hq => S.ev_ok hq hI)
  obtain ⟨hx1, A', hv⟩ := S.ev_ok hx hI
  obtain ⟨A2, c2, xs, he, _, hxr, hxl, hxx⟩ := rd_sl.1 hx1
  refine ⟨a.eval x, ⟨hx1, A', hv⟩, fun w' hS => ?_⟩
  have hA : A' = none → l.length = 0 := fun hA => by
    rw [hv] at he
    injection he with e1 e2 e3
    obtain ⟨b, f, e4, _⟩ := hxr.get hl
    rw [← e1, hA] at e4
    cases e4
  have h0 := run_append_zero (P := P) w' t o.type e i hu hi A A' l.length l.length c (Nat.le_refl _) hA
  have hzv2 : a.eval z = .slice A 0 c := hzv
  simp only [execOp, ho, resolve, invoke, builtin, Sem.run_bind, Sem.run_pure, Result.andThen_ok, List.map_toArray, List.map_cons, List.map_nil, hv, hzv2, h0]
end
end Go.Proofs.YtcnoopjacilceaaGreatDoor
namespace Go.Proofs.YtcnoopjacilceaaGreatDoor
attribute [local irreducible] PL QL PWPr PCalls Weak RetK Kontr PA
open Go.RowKit
open IntWalk renaming iteOmega → iO, toNatUp → tN
set_option linter.unusedVariables false
set_option linter.unusedSimpArgs false
set_option maxRecDepth 20000
theorem numbered_pure (k : Int) : PCalls Tryz.prog 59 [.c (.v (.int .i64 k))] [] fun r os => r = .c (.v (.bool (decide (k = 2) || decide (k = 3)))) ∧ os = [] := by
  refine pcalls_of Tryz.func59 rfl (by simp [Tryz.ntmps59]) ?_
  rw [Tryz.ntmps59, Tryz.results59]
  by_cases h : k = 2
  · have h' := eq_true h
    push_cast [iO, tN]
    repeat' (first | ((first | refine pG ?_ | refine pQ ?_ | refine pU ?_); push_cast [iO, tN, h']) | (refine pif (fun h => ?_) (fun h => ?_) <;> first | exact pN h | push_cast [iO, tN, h']))
    (refine retK_of [] ?_; push_cast [iO, tN])
    all_goals simp [h]
  · push_cast [iO, tN]
    repeat' (first | ((first | refine pG ?_ | refine pQ ?_ | refine pU ?_); push_cast [iO, tN, h]) | (refine pif (fun h => ?_) (fun h => ?_) <;> first | exact pN h | push_cast [iO, tN, h]))
    (refine retK_of [] ?_; push_cast [iO, tN])
    all_goals simp [h]
theorem node_pure (d : Dev) (hd : d.original.size ≤ 1048576) : PCalls Tryz.prog 25 [.agg d.e] [] fun r os => r = .two (.c (.v (.string (nodeM d)))) (.c (.v (.bool (hasN d)))) ∧ os = [] := by
  have hn := numbered_pure d.kind
  have hr := repl_pure d.original (by omega)
  unfold nodeM
  have e : hasN d = (decide (d.kind = 2) || decide (d.kind = 3)) := rfl
  obtain ⟨b, hb⟩ : ∃ b, (decide (d.kind = 2) || decide (d.kind = 3)) = b := ⟨_, rfl⟩
  rw [e, hb]
  rw [hb] at hn
  refine pcalls_of Tryz.func25 rfl (by simp [Tryz.ntmps25]) ?_
  rw [Tryz.ntmps25, Tryz.results25]
  cases b
  · push_cast [iO, tN]
    repeat' (first |  (refine plc [] (hn) ?_ ?_; push_cast [iO, tN]; rintro r os ⟨rfl, rfl⟩; push_cast [iO, tN])  | ((first | refine pG ?_ | refine pQ ?_ | refine pU ?_); push_cast [iO, tN]) | (refine pif (fun h => ?_) (fun h => ?_) <;> first | exact pN h | push_cast [iO, tN]))
    (refine retK_of [] ?_; push_cast [iO, tN])
  · push_cast [iO, tN]
    repeat' (first |  (refine plc [] (hn) ?_ ?_; push_cast [iO, tN]; rintro r os ⟨rfl, rfl⟩; push_cast [iO, tN]) | (refine plc [] (hr) ?_ ?_; push_cast [iO, tN]; rintro r os ⟨rfl, rfl⟩; push_cast [iO, tN])  | ((first | refine pG ?_ | refine pQ ?_ | refine pU ?_); push_cast [iO, tN]) | (refine pif (fun h => ?_) (fun h => ?_) <;> first | exact pN h | push_cast [iO, tN]))
    (refine retK_of [] ?_; push_cast [iO, tN])
end Go.Proofs.YtcnoopjacilceaaGreatDoor
namespace Go.Proofs.YtcnoopjacilceaaGreatDoor
attribute [local irreducible] PL QL PWPr PCalls Weak RetK Kontr PA
open Go.RowKit
open IntWalk renaming iteOmega → iO, toNatUp → tN
set_option linter.unusedVariables false
set_option linter.unusedSimpArgs false
set_option maxRecDepth 20000
theorem sfind_pure (l : List Dev) (rs : List Rec) (n : Int) (h : Okp l) (hl : l.length ≤ 1000) (hz : ∀ d ∈ l, d.original.size ≤ 1000) (hr : RecsOk rs) :
    PCalls Tryz.prog 40 [.agg (trE l), .c (.sl 12 (rs.map Rec.d)), .c (.v (.int .i64 n))] [] fun r os => r = .two (.agg ((recT l rs n).getD default).e) (.c (.v (.bool ((recT l rs n).isSome)))) ∧ os = [] := by
  have ho := origin_pure l n h hl hz
  have hf := findR_pure rs n (placeM l n) (by have := hr.len; omega)
  cases hd : findD l n with
  | none =>
    have hR := recT_none (rs := rs) hd
    rw [hd] at ho
    refine pcalls_of Tryz.func40 rfl (by simp [Tryz.ntmps40]) ?_
    rw [Tryz.ntmps40, Tryz.results40]
    push_cast [iO, tN]
    repeat' (first |  ((refine plc [] (ho) ?_ ?_; push_cast [iO, tN]; rintro r os ⟨rfl, rfl⟩; push_cast [iO, tN]))  | ((first | refine pG ?_ | refine pQ ?_ | refine pU ?_); push_cast [iO, tN]) | (refine pif (fun h => ?_) (fun h => ?_) <;> first | exact pN h | push_cast [iO, tN]))
    (refine retK_of [] ?_; push_cast [iO, tN, hR, Option.getD_none, Option.isSome_none])
    repeat' (first | exact rfl | exact leOs_refl _ | exact trivial | refine ⟨?_, ?_⟩)
  | some d =>
    have hR := recT_some (rs := rs) hd
    rw [hd] at ho
    rw [hR]
    refine pcalls_of Tryz.func40 rfl (by simp [Tryz.ntmps40]) ?_
    rw [Tryz.ntmps40, Tryz.results40]
    push_cast [iO, tN]
    repeat' (first |  ((refine plc [] (ho) ?_ ?_; push_cast [iO, tN]; rintro r os ⟨rfl, rfl⟩; push_cast [iO, tN])) | ((refine plc [] (hf) ?_ ?_; push_cast [iO, tN]; rintro r os ⟨rfl, rfl⟩; push_cast [iO, tN]))  | ((first | refine pG ?_ | refine pQ ?_ | refine pU ?_); push_cast [iO, tN]) | (refine pif (fun h => ?_) (fun h => ?_) <;> first | exact pN h | push_cast [iO, tN]))
    (refine retK_of [] ?_; push_cast [iO, tN])
    all_goals (try exact ⟨_, _, leP_refl _, leOs_refl _, rfl, rfl⟩)
set_option maxHeartbeats 8000000 in
theorem seatOf_pure (l : List Dev) (rs : List Rec) (n : Int) (h : Okp l) (hl : l.length ≤ 1000) (hz : ∀ d ∈ l, d.original.size ≤ 1000) (ha : ∀ d ∈ l, d.attrs.length ≤ 1000000000) (hr : RecsOk rs) :
    PCalls Tryz.prog 15 [.agg (trE l), .c (.sl 12 (rs.map Rec.d)), .c (.v (.int .i64 n))] [] fun r os => r = .c (.v (.string (seatM l rs n))) ∧ os = [] := by
  have hf := tfind_pure l n hl ha
  have hA := ancestors_pure l n h hl hz ha
  have hanc : (ancM l n).length ≤ l.length := by unfold ancM; exact Nat.le_trans (List.length_filter_le _ _) (chain_len l n)
  unfold seatM
  cases hd : findD l n with
  | none =>
    rw [hd] at hf
    simp only [Option.getD_none, Option.isSome_none] at hf
    rw [if_neg (show ¬ (none : Option Dev).isSome = true by simp)]
    refine pcalls_of Tryz.func15 rfl (by simp [Tryz.ntmps15]) ?_
    rw [Tryz.ntmps15, Tryz.results15]
    push_cast [iO, tN]
    repeat' (first |  (refine plc [] (hf) ?_ ?_; push_cast [iO, tN]; rintro r os ⟨rfl, rfl⟩; push_cast [iO, tN])  | ((first | refine pG ?_ | refine pQ ?_ | refine pU ?_); push_cast [iO, tN]) | (refine pif (fun h => ?_) (fun h => ?_) <;> first | exact pN h | push_cast [iO, tN]))
    (refine retK_of [] ?_; push_cast [iO, tN])
  | some d =>
    have hch := anc_chain h hd
    rw [hd] at hf
    simp only [Option.getD_some, Option.isSome_some] at hf
    rw [if_pos (show (some d).isSome = true from rfl)]
    rw [← hch]
    obtain ⟨an, han⟩ : ∃ an, ancM l n = an := ⟨_, rfl⟩
    rw [han] at hA hanc ⊢
    rcases Nat.eq_zero_or_pos an.length with h0 | h0
    · have hnil : an = [] := List.length_eq_zero_iff.1 h0
      subst hnil
      refine pcalls_of Tryz.func15 rfl (by simp [Tryz.ntmps15]) ?_
      rw [Tryz.ntmps15, Tryz.results15]
      push_cast [iO, tN]
      obtain ⟨ch, hcc⟩ : ∃ ch, [d] = ch := ⟨_, rfl⟩
      have cB : CutB 15 [28, 29, 30] := trivial
      repeat' (first |  ((refine plc [] (hf) ?_ ?_; push_cast [iO, tN]; rintro r os ⟨rfl, rfl⟩; push_cast [iO, tN])) | (refine pwp_label ?_; push_cast [iO, tN]) | (refine hidR 5 ?_)  | ((first | refine pC ?_ | refine pQC ?_ | refine pU ?_); push_cast [iO, tN]) | (refine pif (fun h => ?_) (fun h => ?_) <;> first | exact pN h | push_cast [iO, tN]))
      refine unhid ?_
      (refine pwp_cut 15 [28, 29, 30] ?_; apply pwp_drawn_to; (focus kernel_rfl); (focus (simp only [List.length_cons, List.length_nil, Nat.reduceAdd]; (repeat' first | ((refine plc [] (hA) ?_ ?_; push_cast [iO, tN]; rintro r os ⟨rfl, rfl⟩; push_cast [iO, tN])) | (refine pl_appnil (e := 39) (sz := 10) (by' := 136) (l := [d.d]) rfl (by push_cast [iO, tN]) (by push_cast [iO, tN]) (by push_cast [iO, tN]) (by push_cast [iO, tN]) (by push_cast [iO, tN]) (by omega) (by push_cast [iO, tN]) (by simp) (by push_cast [iO, tN]) ?_; refine pl_of_pops ?_; push_cast [iO, tN]) | ((first | refine pah 3 ?_ | refine pah 6 ?_ | refine pah 7 ?_); push_cast [iO, tN]) | (refine pad ?_; first | with_reducible exact weak_cutS 15 [28, 29, 30] _ | (refine weak_fg ?_; push_cast [iO, tN])) | ((first | refine pas [0] ?_ | refine pas [1] ?_ | refine pas [2] ?_ | refine pas [4] ?_ | refine pas [5] ?_); push_cast [iO, tN]) | ((first | refine pas [0, 2] ?_ | refine pas [0, 4] ?_ | refine pas [1, 2] ?_ | refine pas [1, 4] ?_); push_cast [iO, tN]; refine ⟨?_, ?_⟩)); done)); push_cast [iO, tN])
      rw [hcc]
      have hcl : ch.length = 1 := by rw [← hcc]; rfl
      have hE : [d.d] = ch.map Dev.d := by rw [← hcc]; rfl
      simp only [Dev.d] at hE
      rw [hE]
      (apply pwp_loop3 (α := Nat) 15 [28, 29, 30] (fun k => [(30, .c (.v (.int .i64 k))), (28, .c (.sl 10 (ch.map Dev.d))), (29, .c (.v (.int .i64 ch.length)))]) (fun k => []) (fun k => k ≤ ch.length ∧ ∀ x ∈ ch.take k, (fun d : Dev => validS (seatV l rs d.index)) x = false) (fun k => ch.length - k) (0); (focus ((try push_cast [iO, tN]); rfl)); (focus exact ⟨Nat.zero_le _, by simp⟩); (focus ((refine weak_fg ?_; try push_cast [iO, tN]); (try (omega)))))
      rintro k ⟨hk, hpre⟩
      push_cast [iO, tN]
      by_cases hlt : k < ch.length
      · obtain ⟨m, hm⟩ : ∃ m, (ch.getD k default).index = m := ⟨_, rfl⟩
        have hrec := sfind_pure l rs m h hl hz hr
        have hgt := get_pure ((recT l rs m).getD default) ⟨#[73, 68, 95, 83, 69, 65, 84]⟩ (by have := (recD_props (l := l) (n := m) hr).1; omega)
        have hv := valid_pure (seatV l rs m) (by have := seatV_size (l := l) (n := m) hr; omega)
        change PCalls _ _ _ _ fun x os => x = .c (.v (.string (seatV l rs m))) ∧ os = [] at hgt
        have hat := seatL_at (l := l) (rs := rs) hlt hpre
        have hnx := fun h => take_next (q := fun d : Dev => validS (seatV l rs d.index)) hlt hpre h
        simp only [hm] at hat hnx
        obtain ⟨rc, hrc⟩ : ∃ rc, (recT l rs m).getD default = rc := ⟨_, rfl⟩
        rw [hrc] at hrec hgt
        obtain ⟨v, hvv⟩ : ∃ v, seatV l rs m = v := ⟨_, rfl⟩
        rw [hvv] at hgt hv hat hnx
        cases hb : validS v with
        | true =>
          rw [hb] at hv
          have hs := hat hb
          repeat' (first | ((refine plc [] (hrec) ?_ ?_; push_cast [iO, tN, hm]; rintro r os ⟨rfl, rfl⟩; push_cast [iO, tN, hm])) | ((refine plc [] (hgt) ?_ ?_; push_cast [iO, tN, hm]; rintro r os ⟨rfl, rfl⟩; push_cast [iO, tN, hm])) | ((refine plc [] (hv) ?_ ?_; push_cast [iO, tN, hm]; rintro r os ⟨rfl, rfl⟩; push_cast [iO, tN, hm])) | ((first | refine pC ?_ | refine pQC ?_ | refine pU ?_); push_cast [iO, tN, hm]) | (refine pif (fun h => ?_) (fun h => ?_) <;> first | exact pN h | push_cast [iO, tN, hm]))
          (refine retK_of [] ?_; push_cast [iO, tN, hs])
        | false =>
          have hnx := hnx hb
          rw [hb] at hv
          repeat' (first | ((refine plc [] (hrec) ?_ ?_; push_cast [iO, tN, hm]; rintro r os ⟨rfl, rfl⟩; push_cast [iO, tN, hm])) | ((refine plc [] (hgt) ?_ ?_; push_cast [iO, tN, hm]; rintro r os ⟨rfl, rfl⟩; push_cast [iO, tN, hm])) | ((refine plc [] (hv) ?_ ?_; push_cast [iO, tN, hm]; rintro r os ⟨rfl, rfl⟩; push_cast [iO, tN, hm])) | ((first | refine pC ?_ | refine pQC ?_ | refine pU ?_); push_cast [iO, tN, hm]) | (refine pif (fun h => ?_) (fun h => ?_) <;> first | exact pN h | push_cast [iO, tN, hm]))
          exact ⟨k + 1, ⟨by omega, hnx⟩, by (refine weak_fg ?_; push_cast [iO, tN]), by omega⟩
      · rw [List.take_of_length_le (by omega)] at hpre
        have hs := seatL_no hpre
        repeat' (first | ((first | refine pC ?_ | refine pQC ?_ | refine pU ?_); push_cast [iO, tN]) | (refine pif (fun h => ?_) (fun h => ?_) <;> first | exact pN h | push_cast [iO, tN]))
        (refine retK_of [] ?_; push_cast [iO, tN, hs])
    · refine pcalls_of Tryz.func15 rfl (by simp [Tryz.ntmps15]) ?_
      rw [Tryz.ntmps15, Tryz.results15]
      push_cast [iO, tN]
      have cB : CutB 15 [28, 29, 30] := trivial
      repeat' (first |  ((refine plc [] (hf) ?_ ?_; push_cast [iO, tN]; rintro r os ⟨rfl, rfl⟩; push_cast [iO, tN])) | (refine pwp_label ?_; push_cast [iO, tN]) | (refine hidR 5 ?_)  | ((first | refine pC ?_ | refine pQC ?_ | refine pU ?_); push_cast [iO, tN]) | (refine pif (fun h => ?_) (fun h => ?_) <;> first | exact pN h | push_cast [iO, tN]))
      refine unhid ?_
      (refine pwp_cut 15 [28, 29, 30] ?_; apply pwp_drawn_to; (focus kernel_rfl); (focus (simp only [List.length_cons, List.length_nil, Nat.reduceAdd]; (repeat' first | ((refine plc [] (hA) ?_ ?_; push_cast [iO, tN]; rintro r os ⟨rfl, rfl⟩; push_cast [iO, tN])) | ((first | refine pah 3 ?_ | refine pah 6 ?_ | refine pah 7 ?_); push_cast [iO, tN]) | (refine pad ?_; first | with_reducible exact weak_cutS 15 [28, 29, 30] _ | (refine weak_fg ?_; push_cast [iO, tN])) | ((first | refine pas [0] ?_ | refine pas [1] ?_ | refine pas [2] ?_ | refine pas [4] ?_ | refine pas [5] ?_); push_cast [iO, tN]) | ((first | refine pas [0, 2] ?_ | refine pas [0, 4] ?_ | refine pas [1, 2] ?_ | refine pas [1, 4] ?_); push_cast [iO, tN]; refine ⟨?_, ?_⟩)); done)); push_cast [iO, tN])
      obtain ⟨ch, hcc⟩ : ∃ ch, d :: an = ch := ⟨_, rfl⟩
      rw [hcc]
      have hcl : ch.length = 1 + an.length := by rw [← hcc, List.length_cons]; omega
      have hE : d.d :: an.map Dev.d = ch.map Dev.d := by rw [← hcc]; rfl
      simp only [Dev.d] at hE
      have htk : List.take (1 + an.length) (ch.map Dev.d) = ch.map Dev.d := List.take_of_length_le (by rw [List.length_map]; omega)
      rw [hE]
      refine pwp_weak (weak_frz 2 (by omega)) ?_
      push_cast [iO, tN, htk]
      (apply pwp_loop3 (α := Nat) 15 [28, 29, 30] (fun k => [(30, .c (.v (.int .i64 k))), (28, .c (.sl 10 (ch.map Dev.d))), (29, .c (.v (.int .i64 ch.length)))]) (fun k => []) (fun k => k ≤ ch.length ∧ ∀ x ∈ ch.take k, (fun d : Dev => validS (seatV l rs d.index)) x = false) (fun k => ch.length - k) (0); (focus ((try push_cast [iO, tN]); rfl)); (focus exact ⟨Nat.zero_le _, by simp⟩); (focus ((refine weak_fg ?_; try push_cast [iO, tN]); (try (omega)))))
      rintro k ⟨hk, hpre⟩
      push_cast [iO, tN]
      by_cases hlt : k < ch.length
      · obtain ⟨m, hm⟩ : ∃ m, (ch.getD k default).index = m := ⟨_, rfl⟩
        have hrec := sfind_pure l rs m h hl hz hr
        have hgt := get_pure ((recT l rs m).getD default) ⟨#[73, 68, 95, 83, 69, 65, 84]⟩ (by have := (recD_props (l := l) (n := m) hr).1; omega)
        have hv := valid_pure (seatV l rs m) (by have := seatV_size (l := l) (n := m) hr; omega)
        change PCalls _ _ _ _ fun x os => x = .c (.v (.string (seatV l rs m))) ∧ os = [] at hgt
        have hat := seatL_at (l := l) (rs := rs) hlt hpre
        have hnx := fun h => take_next (q := fun d : Dev => validS (seatV l rs d.index)) hlt hpre h
        simp only [hm] at hat hnx
        obtain ⟨rc, hrc⟩ : ∃ rc, (recT l rs m).getD default = rc := ⟨_, rfl⟩
        rw [hrc] at hrec hgt
        obtain ⟨v, hvv⟩ : ∃ v, seatV l rs m = v := ⟨_, rfl⟩
        rw [hvv] at hgt hv hat hnx
        cases hb : validS v with
        | true =>
          rw [hb] at hv
          have hs := hat hb
          repeat' (first | ((refine plc [] (hrec) ?_ ?_; push_cast [iO, tN, hm]; rintro r os ⟨rfl, rfl⟩; push_cast [iO, tN, hm])) | ((refine plc [] (hgt) ?_ ?_; push_cast [iO, tN, hm]; rintro r os ⟨rfl, rfl⟩; push_cast [iO, tN, hm])) | ((refine plc [] (hv) ?_ ?_; push_cast [iO, tN, hm]; rintro r os ⟨rfl, rfl⟩; push_cast [iO, tN, hm])) | ((first | refine pC ?_ | refine pQC ?_ | refine pU ?_); push_cast [iO, tN, hm]) | (refine pif (fun h => ?_) (fun h => ?_) <;> first | exact pN h | push_cast [iO, tN, hm]))
          (refine retK_of [] ?_; push_cast [iO, tN, hs])
        | false =>
          have hnx := hnx hb
          rw [hb] at hv
          repeat' (first | ((refine plc [] (hrec) ?_ ?_; push_cast [iO, tN, hm]; rintro r os ⟨rfl, rfl⟩; push_cast [iO, tN, hm])) | ((refine plc [] (hgt) ?_ ?_; push_cast [iO, tN, hm]; rintro r os ⟨rfl, rfl⟩; push_cast [iO, tN, hm])) | ((refine plc [] (hv) ?_ ?_; push_cast [iO, tN, hm]; rintro r os ⟨rfl, rfl⟩; push_cast [iO, tN, hm])) | ((first | refine pC ?_ | refine pQC ?_ | refine pU ?_); push_cast [iO, tN, hm]) | (refine pif (fun h => ?_) (fun h => ?_) <;> first | exact pN h | push_cast [iO, tN, hm]))
          exact ⟨k + 1, ⟨by omega, hnx⟩, by (refine weak_fg ?_; push_cast [iO, tN]), by omega⟩
      · rw [List.take_of_length_le (by omega)] at hpre
        have hs := seatL_no hpre
        repeat' (first | ((first | refine pC ?_ | refine pQC ?_ | refine pU ?_); push_cast [iO, tN]) | (refine pif (fun h => ?_) (fun h => ?_) <;> first | exact pN h | push_cast [iO, tN]))
        (refine retK_of [] ?_; push_cast [iO, tN, hs])
end Go.Proofs.YtcnoopjacilceaaGreatDoor
