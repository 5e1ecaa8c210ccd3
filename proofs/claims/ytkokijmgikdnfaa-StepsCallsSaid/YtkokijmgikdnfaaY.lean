/- Contract of the reference's fair pick. -/
import Derived.Test.YtkokijmgikdnfaaX
namespace Go.Proofs.Ytkokijmgikdnfaa
open Go.RowKit
set_option linter.unusedVariables false

theorem RKeep.more {base base' : Nat} {w w' : World} (h : RKeep base w w') (hb : base' ≤ base) : RKeep base' w w' := ⟨h.os, h.tape, h.output, h.size, fun k hk hs => h.low k (by omega) hs, h.other⟩
def zans : Obj := .cells #[.int .i64 0, .bool false, .int .i64 0] 34
theorem zans_at (w : World) : AnsAt (w.alloc (.cells #[.int .i64 0, .bool false, .int .i64 0] 34)) w.heap.size 0 false 0 := heap_alloc_new w _

set_option maxHeartbeats 4000000 in
theorem rFairNone {w : World} {base S : Nat} {v : Value} {last : Int} (h : RS w base S v [] last) :
    Calls Try.prog 24 #[.pointer (some ⟨S, 0, none⟩)] w fun e w' => e = .returned (ans 0 false 9) ∧ (∃ v', RS w' base S v' [] last) ∧ RKeep base w w' := by
  have hB0 : Below w.heap.size w (w.alloc (.cells #[.int .i64 0, .bool false, .int .i64 0] 34)) := (Below.refl _ _).alloc (Nat.le_refl _) _
  have h0 := h.below hB0
  obtain ⟨A, c, rfl⟩ := h.form
  have ch := h0.head0
  have hB9 : Below w.heap.size w (w.alloc (.cells #[.int .i64 0, .bool false, .int .i64 9] 34)) := (Below.refl _ _).alloc (Nat.le_refl _) _
  have hA : AnsAt (w.alloc (.cells #[.int .i64 0, .bool false, .int .i64 9] 34)) w.heap.size 0 false 9 := heap_alloc_new w _
  replace hB9 := Lib.hid hB9
  replace hA := Lib.hid hA
  replace h := Lib.hid h
  clear hB0 h0
  go_enter Try.func24, Try.ntmps24
  go_wp2
  refine bodyPost_ret (ret_ans rfl _ _ w.heap.size rfl hA.out) rfl ?_
  exact ⟨rfl, ⟨_, h.out.below hB9.out⟩, RKeep.of_below hB9.out⟩

set_option maxRecDepth 100000 in
set_option maxHeartbeats 4000000 in
theorem rFair {w : World} {base S : Nat} {v : Value} {l : List Ent} {last : Int} (h0 : 0 < l.length) (hl : l.length ≤ 1000) (hb : base ≤ w.heap.size) (h : RS w base S v l last) :
    Calls Try.prog 24 #[.pointer (some ⟨S, 0, none⟩)] w (RStepped w base S (fairL l) last (fairB l) (by rw [fairL_length]; exact fairB_lt l h0)) := by
  obtain ⟨g, c, hv, -⟩ := h.rrow h0
  subst hv
  have hB0 : Below w.heap.size w (w.alloc (.cells #[.int .i64 0, .bool false, .int .i64 0] 34)) := (Below.refl _ _).alloc (Nat.le_refl _) _
  have h1 := h.below hB0
  have ch := h1.head0
  have hA := Lib.hid (zans_at w)
  have hK := Lib.hid (RKeep.of_below (base := base) hB0)
  have n0 : ((l.length : Int) == 0) = false := by rw [beq_eq_false_iff_ne]; omega
  have hl2 : (l.length : Int) ≤ 1000 := by omega
  have hz0 : base ≤ (w.alloc (.cells #[.int .i64 0, .bool false, .int .i64 0] 34)).heap.size := by simp; omega
  have h1h := Lib.hid h1
  clear h1 hB0
  go_enter Try.func24, Try.ntmps24
  go_wp2
  go_loopw [3, 4, 5] (fun a b d w' => ∃ (k j : Nat), k ≤ l.length ∧ j ≤ k ∧ j < l.length ∧ j = bestTo (l.map inc) k ∧ a = .int .i64 (sumTo l k) ∧ b = .int .i64 j ∧ d = .int .i64 k ∧ RS w' base S (.slice (some ⟨g, 0, none⟩) l.length c) (incTo l k) last ∧ RKeep base w w' ∧ AnsAt w' w.heap.size 0 false 0) (fun _ _ d _ => l.length - (intOf d).toNat)
  case atStart => exact ⟨0, 0, Nat.zero_le _, Nat.le_refl _, h0, rfl, rfl, rfl, rfl, by rw [incTo_zero]; exact h1h.out, hK.out, hA.out⟩
  case round =>
    obtain ⟨k, j, hk, hjk, hj, hjb, rfl, rfl, rfl, hs, hKr, hAr⟩ := hrel
    clear hA hK h1h ch
    have ch := hs.head0
    by_cases hlt : k < l.length
    · have hkl : k < (incTo l k).length := by rw [incTo_length]; exact hlt
      have hrr : RRow wr base g c (incTo l k) := ⟨by have := hs.row; rw [incTo_length] at this ⊢; exact this⟩
      obtain ⟨-, d1, d2, -⟩ := hrr.cells hkl
      have e0 : (incTo l k)[k] = l[k] := by rw [incTo_get, if_neg (Nat.lt_irrefl k)]
      rw [e0] at d1 d2
      have fr := hrr.frozen (k * 4 + 2)
      have hs' : RS wr base S (.slice (some ⟨g, 0, none⟩) (incTo l k).length c) (incTo l k) last := by rw [incTo_length]; exact hs
      obtain ⟨hs2, hk2⟩ := hs'.setCr k hkl (wrap64 (l[k].cr + l[k].wt))
      rw [e0, show l[k].withCr (wrap64 (l[k].cr + l[k].wt)) = inc l[k] from rfl, ← incTo_succ l k hlt, incTo_length] at hs2
      have hK2 := Lib.hid (hKr.trans hk2)
      have hA2 := Lib.hid (hk2.ansAt hAr)
      have hst : Hid (sumTo l (k + 1) = wrap64 (sumTo l k + l[k].wt)) := by show _ = _; rw [sumTo, wtAt_get l k hlt]
      have hrr2 : RRow (wr.setCell ⟨g, k * 4 + 2, none⟩ (.int .i64 (wrap64 (l[k].cr + l[k].wt)))) base g c (incTo l (k + 1)) := ⟨by have := hs2.row; rw [incTo_length] at this ⊢; exact this⟩
      obtain ⟨-, -, x2, -⟩ := hrr2.cells (i := k) (by rw [incTo_length]; exact hlt)
      obtain ⟨-, -, y2, -⟩ := hrr2.cells (i := j) (by rw [incTo_length]; exact hj)
      rw [incTo_get, if_pos (Nat.lt_succ_self k)] at x2
      rw [incTo_get, if_pos (Nat.lt_succ_of_le hjk)] at y2
      have ch2 := hs2.head0
      have hb2 : Hid (bestTo (l.map inc) (k + 1) = if (inc l[k]).cr > (inc l[j]).cr then k else j) := by
        show _ = _
        rw [bestTo, ← hjb, crAt_get _ _ (by simpa using hlt), crAt_get _ _ (by simpa using hj), inc_get, inc_get]
      replace hs2 := Lib.hid hs2
      clear hs hs' hrr hrr2 hk2 hKr hAr e0 hjb
      obtain ⟨W2, hW2⟩ : ∃ W2, wr.setCell ⟨g, k * 4 + 2, none⟩ (.int .i64 (wrap64 (l[k].cr + l[k].wt))) = W2 := ⟨_, rfl⟩
      rw [hW2] at hs2 hK2 hA2 x2 y2 ch2
      go_upto_region 8 with fail
      go_cut [] (fun wx => wx = W2.drew)
      case first =>
        replace hW2 := Lib.hid hW2
        clear x2 y2 ch2
        go_region
        all_goals go_wp2_with fail
        all_goals go_meet
        all_goals (rw [hW2.out])
      case rest =>
        subst hcut
        clear d1 d2 fr ch hW2
        cases hgt : decide ((inc l[k]).cr > (inc l[j]).cr) with
        | true =>
          have hb3 := Lib.hid (show k = bestTo (l.map inc) (k + 1) by rw [hb2.out, if_pos (of_decide_eq_true hgt)])
          clear hb2
          go_wp2_with fail
          go_quiet (fail)
          go_wp2
          go_roundw
          case rel => exact ⟨k + 1, k, by omega, by omega, by omega, hb3.out, by rw [hst.out], rfl, by go_num, hs2.out.drewN _, hK2.out.drewN _, hA2.out⟩
          case measure => simp [intOf]; omega
        | false =>
          have hb3 := Lib.hid (show j = bestTo (l.map inc) (k + 1) by rw [hb2.out, if_neg (of_decide_eq_false hgt)])
          clear hb2
          go_wp2_with fail
          go_quiet (fail)
          go_wp2
          go_roundw
          case rel => exact ⟨k + 1, j, by omega, by omega, by omega, hb3.out, by rw [hst.out], rfl, by go_num, hs2.out.drewN _, hK2.out.drewN _, hA2.out⟩
          case measure => simp [intOf]; omega
    · obtain rfl : k = l.length := by omega
      rw [incTo_all] at hs
      have hjl : j < (l.map inc).length := by simpa using hj
      have hrr : RRow wr base g c (l.map inc) := ⟨by have := hs.row; rw [List.length_map] at this ⊢; exact this⟩
      obtain ⟨-, -, d2, -⟩ := hrr.cells hjl
      rw [inc_get] at d2
      have fr := hrr.frozen (j * 4 + 2)
      have hs' : RS wr base S (.slice (some ⟨g, 0, none⟩) (l.map inc).length c) (l.map inc) last := by rw [List.length_map]; exact hs
      have hjb' : fairB l = j := hjb.symm
      have hlj : fairB l < l.length := by rw [hjb']; exact hj
      obtain ⟨hs2, hk2⟩ := hs'.setCr j hjl (wrap64 ((inc l[j]).cr - sumTo l l.length))
      have hset : (l.map inc).set j ((l.map inc)[j].withCr (wrap64 ((inc l[j]).cr - sumTo l l.length))) = fairL l := by
        rw [fairL_set l hlj]
        subst hjb'
        simp [Ent.withCr]
      rw [hset, List.length_map] at hs2
      have hK2 := hKr.trans hk2
      have hst : Calls Try.prog 23 #[.pointer (some ⟨S, 0, none⟩), .int .i64 (j : Int)] (wr.setCell ⟨g, j * 4 + 2, none⟩ (.int .i64 (wrap64 ((inc l[j]).cr - sumTo l l.length)))) (RStepped (wr.setCell ⟨g, j * 4 + 2, none⟩ (.int .i64 (wrap64 ((inc l[j]).cr - sumTo l l.length)))) base S (fairL l) last (fairB l) (by rw [fairL_length]; exact hlj)) := by
        have e : Value.int .i64 (j : Int) = .int .i64 (fairB l : Int) := by rw [hjb']
        rw [e]
        exact rStep (fairB l) (by rw [fairL_length]; exact hlj) (by rw [fairL_length]; exact hl) (Nat.le_trans hb hK2.size) hs2
      have hA2 := Lib.hid (hk2.ansAt hAr)
      have hK2h := Lib.hid hK2
      replace hst := Lib.hid hst
      have hjb2 := Lib.hid hjb'
      clear hs hs' hrr hs2 hk2 hK2 hKr hAr hset hjb hjb'
      go_wp2_with fail
      refine hst.out.mono ?_
      rintro e w5 ⟨rfl, ⟨v5, h5⟩, k5⟩
      have hA : AnsAt w5 w.heap.size 0 false 0 := k5.ansAt hA2.out
      have hK3 := Lib.hid (hK2h.out.trans k5)
      have fa0 : w5.cell? ⟨w.heap.size, 0, none⟩ = some (.int .i64 0) := cell_of_row _ _ 0 _ _ _ hA
      have fa1 : w5.cell? ⟨w.heap.size, 1, none⟩ = some (.bool false) := cell_of_row _ _ 1 _ _ _ hA
      have fa2 : w5.cell? ⟨w.heap.size, 2, none⟩ = some (.int .i64 0) := cell_of_row _ _ 2 _ _ _ hA
      have z0 := fz hA 0
      have z1 := fz hA 1
      have z2 := fz hA 2
      replace h5 := Lib.hid h5
      replace hA := Lib.hid hA
      clear hst k5 d2 fr ch
      unfold ans
      generalize hid1 : ((fairL l)[fairB l]'(by rw [fairL_length]; exact hlj)).id = idv
      generalize hfl1 : (wrap64 (((fairL l)[fairB l]'(by rw [fairL_length]; exact hlj)).left - 1) == 0) = fl
      replace hid1 := Lib.hid hid1
      replace hfl1 := Lib.hid hfl1
      go_wp2
      refine bodyPost_ret (ret_ans rfl _ _ w.heap.size rfl (hA.out.store idv fl 0)) rfl ?_
      exact ⟨by rw [hid1.out, hfl1.out], ⟨_, RS.ans h5.out hA.out _ _ _⟩, hK3.out.ans (Nat.le_refl _) _ _ _⟩
end Go.Proofs.Ytkokijmgikdnfaa
