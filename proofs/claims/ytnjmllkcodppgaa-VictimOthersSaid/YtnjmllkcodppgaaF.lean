/- Contract of victim.Better. -/
import Derived.Test.YtnjmllkcodppgaaE
namespace Go.Proofs.Ytnjmllkcodppgaa
open Go.RowKit
set_option linter.unusedVariables false

theorem betS_ok {a b : BI} {size now : Int} (ha : fitsS a = true) (hb : fitsS b = true) (hs : sizeS size = true) : betS a b size now = decide (num b size now * den a size < num a size now * den b size) := by
  unfold betS
  rw [ha, hb, hs]
  rfl

set_option maxHeartbeats 4000000 in
theorem vBetter (a b : BI) (size now : Int) (w : World) (ga : u64 a.age) (gb : u64 b.age) (gn : u64 now) :
    Calls Try.prog 10 #[.agg #[.int .i64 a.used, .int .i64 a.live, .int .u64 a.age, .int .u64 a.wear], .agg #[.int .i64 b.used, .int .i64 b.live, .int .u64 b.age, .int .u64 b.wear], .int .i64 size, .int .u64 now] w fun e w' => e = .returned (.bool (betS a b size now)) ∧ Below w.heap.size w w' := by
  have hB0 : Below w.heap.size w ((w.alloc (.cells #[.int .i64 a.used, .int .i64 a.live, .int .u64 a.age, .int .u64 a.wear] 24)).alloc (.cells #[.int .i64 b.used, .int .i64 b.live, .int .u64 b.age, .int .u64 b.wear] 24)) := ((Below.refl _ _).alloc (Nat.le_refl _) _).alloc (by simp) _
  have xa := (heap_alloc_new w (.cells #[.int .i64 a.used, .int .i64 a.live, .int .u64 a.age, .int .u64 a.wear] 24))
  have xb := (heap_alloc_new (w.alloc (.cells #[.int .i64 a.used, .int .i64 a.live, .int .u64 a.age, .int .u64 a.wear] 24)) (.cells #[.int .i64 b.used, .int .i64 b.live, .int .u64 b.age, .int .u64 b.wear] 24))
  have ca : At ((w.alloc (.cells #[.int .i64 a.used, .int .i64 a.live, .int .u64 a.age, .int .u64 a.wear] 24)).alloc (.cells #[.int .i64 b.used, .int .i64 b.live, .int .u64 b.age, .int .u64 b.wear] 24)) ⟨w.heap.size, 0, none⟩ a := ⟨cell_alloc (cell_of_row _ _ 0 _ _ _ xa) _, cell_alloc (cell_of_row _ _ 1 _ _ _ xa) _, cell_alloc (cell_of_row _ _ 2 _ _ _ xa) _, cell_alloc (cell_of_row _ _ 3 _ _ _ xa) _⟩
  have cb : At ((w.alloc (.cells #[.int .i64 a.used, .int .i64 a.live, .int .u64 a.age, .int .u64 a.wear] 24)).alloc (.cells #[.int .i64 b.used, .int .i64 b.live, .int .u64 b.age, .int .u64 b.wear] 24)) ⟨w.heap.size + 1, 0, none⟩ b := by
    have e : w.heap.size + 1 = (w.alloc (.cells #[.int .i64 a.used, .int .i64 a.live, .int .u64 a.age, .int .u64 a.wear] 24)).heap.size := by simp
    rw [e]
    exact ⟨cell_of_row _ _ 0 _ _ _ xb, cell_of_row _ _ 1 _ _ _ xb, cell_of_row _ _ 2 _ _ _ xb, cell_of_row _ _ 3 _ _ _ xb⟩
  clear xa xb
  obtain ⟨ca0, ca1, ca2, ca3⟩ := id ca
  obtain ⟨cb0, cb1, cb2, cb3⟩ := id cb
  cases ha : fitsS a with
  | false =>
    have hv := Lib.hid (show betS a b size now = false by unfold betS; rw [ha]; rfl)
    replace ha := Lib.hid ha
    go_enter Try.func10, Try.ntmps10
    go_wp2_with fail
    refine (vFits a _).mono ?_
    rintro e w1 ⟨rfl, hb1⟩
    clear ca0 ca1 ca2 ca3 cb0 cb1 cb2 cb3
    replace ca := ca.below hb1
    replace cb := cb.below hb1
    replace hB0 := below_then hB0 hB0.size hb1
    clear hb1
    obtain ⟨ca0, ca1, ca2, ca3⟩ := id ca
    obtain ⟨cb0, cb1, cb2, cb3⟩ := id cb
    rw [ha.out]
    go_wp2
    go_ret
    exact ⟨by rw [hv.out]; rfl, hB0⟩
  | true =>
    cases hb : fitsS b with
    | false =>
      have hv := Lib.hid (show betS a b size now = false by unfold betS; rw [ha, hb]; rfl)
      replace ha := Lib.hid ha
      replace hb := Lib.hid hb
      go_enter Try.func10, Try.ntmps10
      go_wp2_with fail
      refine (vFits a _).mono ?_
      rintro e w1 ⟨rfl, hb1⟩
      clear ca0 ca1 ca2 ca3 cb0 cb1 cb2 cb3
      replace ca := ca.below hb1
      replace cb := cb.below hb1
      replace hB0 := below_then hB0 hB0.size hb1
      clear hb1
      obtain ⟨ca0, ca1, ca2, ca3⟩ := id ca
      obtain ⟨cb0, cb1, cb2, cb3⟩ := id cb
      rw [ha.out]
      go_wp2_with fail
      refine (vFits b _).mono ?_
      rintro e w2 ⟨rfl, hb1⟩
      clear ca0 ca1 ca2 ca3 cb0 cb1 cb2 cb3
      replace ca := ca.below hb1
      replace cb := cb.below hb1
      replace hB0 := below_then hB0 hB0.size hb1
      clear hb1
      obtain ⟨ca0, ca1, ca2, ca3⟩ := id ca
      obtain ⟨cb0, cb1, cb2, cb3⟩ := id cb
      rw [hb.out]
      go_wp2
      go_ret
      exact ⟨by rw [hv.out]; rfl, hB0⟩
    | true =>
      by_cases hs0 : size < 1 ∨ 1048576 < size
      · have hs : sizeS size = false := by
          rw [Bool.eq_false_iff]
          intro e
          have := (size_iff size).1 e
          omega
        have hv := Lib.hid (show betS a b size now = false by unfold betS; rw [ha, hb, hs]; rfl)
        replace ha := Lib.hid ha
        replace hb := Lib.hid hb
        clear hs
        by_cases hs1 : size < 1
        · clear hs0
          go_enter Try.func10, Try.ntmps10
          go_wp2_with fail
          refine (vFits a _).mono ?_
          rintro e w1 ⟨rfl, hb1⟩
          clear ca0 ca1 ca2 ca3 cb0 cb1 cb2 cb3
          replace ca := ca.below hb1
          replace cb := cb.below hb1
          replace hB0 := below_then hB0 hB0.size hb1
          clear hb1
          obtain ⟨ca0, ca1, ca2, ca3⟩ := id ca
          obtain ⟨cb0, cb1, cb2, cb3⟩ := id cb
          rw [ha.out]
          go_wp2_with fail
          refine (vFits b _).mono ?_
          rintro e w2 ⟨rfl, hb1⟩
          clear ca0 ca1 ca2 ca3 cb0 cb1 cb2 cb3
          replace ca := ca.below hb1
          replace cb := cb.below hb1
          replace hB0 := below_then hB0 hB0.size hb1
          clear hb1
          obtain ⟨ca0, ca1, ca2, ca3⟩ := id ca
          obtain ⟨cb0, cb1, cb2, cb3⟩ := id cb
          rw [hb.out]
          go_wp2
          go_ret
          exact ⟨by rw [hv.out]; rfl, hB0⟩
        · have hs2 : 1048576 < size := by omega
          clear hs0
          go_enter Try.func10, Try.ntmps10
          go_wp2_with fail
          refine (vFits a _).mono ?_
          rintro e w1 ⟨rfl, hb1⟩
          clear ca0 ca1 ca2 ca3 cb0 cb1 cb2 cb3
          replace ca := ca.below hb1
          replace cb := cb.below hb1
          replace hB0 := below_then hB0 hB0.size hb1
          clear hb1
          obtain ⟨ca0, ca1, ca2, ca3⟩ := id ca
          obtain ⟨cb0, cb1, cb2, cb3⟩ := id cb
          rw [ha.out]
          go_wp2_with fail
          refine (vFits b _).mono ?_
          rintro e w2 ⟨rfl, hb1⟩
          clear ca0 ca1 ca2 ca3 cb0 cb1 cb2 cb3
          replace ca := ca.below hb1
          replace cb := cb.below hb1
          replace hB0 := below_then hB0 hB0.size hb1
          clear hb1
          obtain ⟨ca0, ca1, ca2, ca3⟩ := id ca
          obtain ⟨cb0, cb1, cb2, cb3⟩ := id cb
          rw [hb.out]
          go_wp2
          go_ret
          exact ⟨by rw [hv.out]; rfl, hB0⟩
      · have fs : 1 ≤ size ∧ size ≤ 1048576 := by omega
        have hs := (size_iff size).2 fs
        clear hs0
        have hbe := betS_ok (now := now) ha hb hs
        by_cases hov : size < a.live ∨ size < b.live
        · have hvo := Lib.hid (fun W => vOver a b size now W ha hb hs ga gb gn hov)
          replace hbe := Lib.hid hbe
          replace ha := Lib.hid ha
          replace hb := Lib.hid hb
          clear hs
          generalize decide (num b size now * den a size < num a size now * den b size) = r at *
          by_cases ho1 : size < a.live
          · clear hov
            go_enter Try.func10, Try.ntmps10
            go_wp2_with fail
            refine (vFits a _).mono ?_
            rintro e w1 ⟨rfl, hb1⟩
            clear ca0 ca1 ca2 ca3 cb0 cb1 cb2 cb3
            replace ca := ca.below hb1
            replace cb := cb.below hb1
            replace hB0 := below_then hB0 hB0.size hb1
            clear hb1
            obtain ⟨ca0, ca1, ca2, ca3⟩ := id ca
            obtain ⟨cb0, cb1, cb2, cb3⟩ := id cb
            rw [ha.out]
            go_wp2_with fail
            refine (vFits b _).mono ?_
            rintro e w2 ⟨rfl, hb1⟩
            clear ca0 ca1 ca2 ca3 cb0 cb1 cb2 cb3
            replace ca := ca.below hb1
            replace cb := cb.below hb1
            replace hB0 := below_then hB0 hB0.size hb1
            clear hb1
            obtain ⟨ca0, ca1, ca2, ca3⟩ := id ca
            obtain ⟨cb0, cb1, cb2, cb3⟩ := id cb
            rw [hb.out]
            go_wp2_with fail
            refine (hvo.out _).mono ?_
            rintro e w3 ⟨rfl, hb1⟩
            replace hB0 := below_then hB0 hB0.size hb1
            go_wp2
            go_ret
            exact ⟨by rw [hbe.out]; rfl, hB0⟩
          · have ho2 : size < b.live := by omega
            clear hov
            go_enter Try.func10, Try.ntmps10
            go_wp2_with fail
            refine (vFits a _).mono ?_
            rintro e w1 ⟨rfl, hb1⟩
            clear ca0 ca1 ca2 ca3 cb0 cb1 cb2 cb3
            replace ca := ca.below hb1
            replace cb := cb.below hb1
            replace hB0 := below_then hB0 hB0.size hb1
            clear hb1
            obtain ⟨ca0, ca1, ca2, ca3⟩ := id ca
            obtain ⟨cb0, cb1, cb2, cb3⟩ := id cb
            rw [ha.out]
            go_wp2_with fail
            refine (vFits b _).mono ?_
            rintro e w2 ⟨rfl, hb1⟩
            clear ca0 ca1 ca2 ca3 cb0 cb1 cb2 cb3
            replace ca := ca.below hb1
            replace cb := cb.below hb1
            replace hB0 := below_then hB0 hB0.size hb1
            clear hb1
            obtain ⟨ca0, ca1, ca2, ca3⟩ := id ca
            obtain ⟨cb0, cb1, cb2, cb3⟩ := id cb
            rw [hb.out]
            go_wp2_with fail
            refine (hvo.out _).mono ?_
            rintro e w3 ⟨rfl, hb1⟩
            replace hB0 := below_then hB0 hB0.size hb1
            go_wp2
            go_ret
            exact ⟨by rw [hbe.out]; rfl, hB0⟩
        · have ho1 : a.live ≤ size := by omega
          have ho2 : b.live ≤ size := by omega
          clear hov
          have fa := (fits_iff a).1 ha
          have fb := (fits_iff b).1 hb
          have da := den_pos ha hs
          have db := den_pos hb hs
          have ea := age_range a now
          have eb := age_range b now
          have ra := mul_range (a := size - a.live) (b := ageS a now + 1) (A := 1048576) (B := 1099511627777) (by omega) (by omega) (by omega) (by omega)
          have rb := mul_range (a := size - b.live) (b := ageS b now + 1) (A := 1048576) (B := 1099511627777) (by omega) (by omega) (by omega) (by omega)
          have HL := lex_div (num b size now * den a size) (num a size now * den b size) 18446744073709551616 (by omega)
          have ra' : 0 ≤ num a size now ∧ num a size now < 18446744073709551616 := ⟨ra.1, by have := ra.2; unfold num; omega⟩
          have rb' : 0 ≤ num b size now ∧ num b size now < 18446744073709551616 := ⟨rb.1, by have := rb.2; unfold num; omega⟩
          have hm1 := Lib.hid (fun W => mul64I (num a size now) (den b size) ra' (by omega) W)
          have hm2 := Lib.hid (fun W => mul64I (num b size now) (den a size) rb' (by omega) W)
          have hl1 := Lib.hid (fun W => vYield a size now W ga gn fs (by omega))
          have hl2 := Lib.hid (fun W => vYield b size now W gb gn fs (by omega))
          replace hbe := Lib.hid hbe
          replace ha := Lib.hid ha
          replace hb := Lib.hid hb
          clear ra rb ra' rb' ea eb fa fb hs da db
          generalize decide (num b size now * den a size < num a size now * den b size) = r at *
          generalize num b size now * den a size / 18446744073709551616 = h at *
          generalize num b size now * den a size % 18446744073709551616 = l at *
          generalize num a size now * den b size / 18446744073709551616 = k at *
          generalize num a size now * den b size % 18446744073709551616 = m at *
          generalize num a size now = la at *
          generalize num b size now = lb at *
          generalize den a size = da at *
          generalize den b size = db at *
          have HL2 := HL
          replace HL := Lib.hid HL
          by_cases q1 : h < k
          · have d1 : decide (h < k) = true := decide_eq_true q1
            clear q1
            have hv := Lib.hid (show lexB h l k m = true by unfold lexB; simp [d1])
            clear HL2
            go_enter Try.func10, Try.ntmps10
            go_wp2_with fail
            refine (vFits a _).mono ?_
            rintro e w1 ⟨rfl, hb1⟩
            clear ca0 ca1 ca2 ca3 cb0 cb1 cb2 cb3
            replace ca := ca.below hb1
            replace cb := cb.below hb1
            replace hB0 := below_then hB0 hB0.size hb1
            clear hb1
            obtain ⟨ca0, ca1, ca2, ca3⟩ := id ca
            obtain ⟨cb0, cb1, cb2, cb3⟩ := id cb
            rw [ha.out]
            go_wp2_with fail
            refine (vFits b _).mono ?_
            rintro e w2 ⟨rfl, hb1⟩
            clear ca0 ca1 ca2 ca3 cb0 cb1 cb2 cb3
            replace ca := ca.below hb1
            replace cb := cb.below hb1
            replace hB0 := below_then hB0 hB0.size hb1
            clear hb1
            obtain ⟨ca0, ca1, ca2, ca3⟩ := id ca
            obtain ⟨cb0, cb1, cb2, cb3⟩ := id cb
            rw [hb.out]
            go_wp2_with fail
            refine (hl1.out _).mono ?_
            rintro e w3 ⟨rfl, hb1⟩
            clear ca0 ca1 ca2 ca3 cb0 cb1 cb2 cb3
            replace ca := ca.below hb1
            replace cb := cb.below hb1
            replace hB0 := below_then hB0 hB0.size hb1
            clear hb1
            obtain ⟨ca0, ca1, ca2, ca3⟩ := id ca
            obtain ⟨cb0, cb1, cb2, cb3⟩ := id cb
            go_wp2_with fail
            refine (hl2.out _).mono ?_
            rintro e w4 ⟨rfl, hb1⟩
            clear ca0 ca1 ca2 ca3 cb0 cb1 cb2 cb3
            replace ca := ca.below hb1
            replace cb := cb.below hb1
            replace hB0 := below_then hB0 hB0.size hb1
            clear hb1
            obtain ⟨ca0, ca1, ca2, ca3⟩ := id ca
            obtain ⟨cb0, cb1, cb2, cb3⟩ := id cb
            go_wp2_with fail
            refine (hm1.out _).mono ?_
            rintro e w5 ⟨rfl, rfl⟩
            go_wp2_with fail
            refine (hm2.out _).mono ?_
            rintro e w6 ⟨rfl, rfl⟩
            go_wp2
            go_ret
            exact ⟨by rw [hbe.out, ← HL.out, hv.out]; rfl, hB0⟩
          · have d1 : decide (h < k) = false := decide_eq_false q1
            clear q1
            by_cases q2 : h = k
            · have d2 : (h == k) = true := beq_iff_eq.2 q2
              clear q2
              by_cases q3 : l < m
              · have d3 : decide (l < m) = true := decide_eq_true q3
                clear q3
                have hv := Lib.hid (show lexB h l k m = true by unfold lexB; simp [d1, d2, d3])
                clear HL2
                have d2' : (k == h) = true := by rw [beq_iff_eq] at d2 ⊢; exact d2.symm
                go_enter Try.func10, Try.ntmps10
                go_wp2_with fail
                refine (vFits a _).mono ?_
                rintro e w1 ⟨rfl, hb1⟩
                clear ca0 ca1 ca2 ca3 cb0 cb1 cb2 cb3
                replace ca := ca.below hb1
                replace cb := cb.below hb1
                replace hB0 := below_then hB0 hB0.size hb1
                clear hb1
                obtain ⟨ca0, ca1, ca2, ca3⟩ := id ca
                obtain ⟨cb0, cb1, cb2, cb3⟩ := id cb
                rw [ha.out]
                go_wp2_with fail
                refine (vFits b _).mono ?_
                rintro e w2 ⟨rfl, hb1⟩
                clear ca0 ca1 ca2 ca3 cb0 cb1 cb2 cb3
                replace ca := ca.below hb1
                replace cb := cb.below hb1
                replace hB0 := below_then hB0 hB0.size hb1
                clear hb1
                obtain ⟨ca0, ca1, ca2, ca3⟩ := id ca
                obtain ⟨cb0, cb1, cb2, cb3⟩ := id cb
                rw [hb.out]
                go_wp2_with fail
                refine (hl1.out _).mono ?_
                rintro e w3 ⟨rfl, hb1⟩
                clear ca0 ca1 ca2 ca3 cb0 cb1 cb2 cb3
                replace ca := ca.below hb1
                replace cb := cb.below hb1
                replace hB0 := below_then hB0 hB0.size hb1
                clear hb1
                obtain ⟨ca0, ca1, ca2, ca3⟩ := id ca
                obtain ⟨cb0, cb1, cb2, cb3⟩ := id cb
                go_wp2_with fail
                refine (hl2.out _).mono ?_
                rintro e w4 ⟨rfl, hb1⟩
                clear ca0 ca1 ca2 ca3 cb0 cb1 cb2 cb3
                replace ca := ca.below hb1
                replace cb := cb.below hb1
                replace hB0 := below_then hB0 hB0.size hb1
                clear hb1
                obtain ⟨ca0, ca1, ca2, ca3⟩ := id ca
                obtain ⟨cb0, cb1, cb2, cb3⟩ := id cb
                go_wp2_with fail
                refine (hm1.out _).mono ?_
                rintro e w5 ⟨rfl, rfl⟩
                go_wp2_with fail
                refine (hm2.out _).mono ?_
                rintro e w6 ⟨rfl, rfl⟩
                go_wp2
                go_ret
                exact ⟨by rw [hbe.out, ← HL.out, hv.out]; rfl, hB0⟩
              · have d3 : decide (l < m) = false := decide_eq_false q3
                clear q3
                have hv := Lib.hid (show lexB h l k m = false by unfold lexB; simp [d1, d2, d3])
                clear HL2
                have d2' : (k == h) = true := by rw [beq_iff_eq] at d2 ⊢; exact d2.symm
                go_enter Try.func10, Try.ntmps10
                go_wp2_with fail
                refine (vFits a _).mono ?_
                rintro e w1 ⟨rfl, hb1⟩
                clear ca0 ca1 ca2 ca3 cb0 cb1 cb2 cb3
                replace ca := ca.below hb1
                replace cb := cb.below hb1
                replace hB0 := below_then hB0 hB0.size hb1
                clear hb1
                obtain ⟨ca0, ca1, ca2, ca3⟩ := id ca
                obtain ⟨cb0, cb1, cb2, cb3⟩ := id cb
                rw [ha.out]
                go_wp2_with fail
                refine (vFits b _).mono ?_
                rintro e w2 ⟨rfl, hb1⟩
                clear ca0 ca1 ca2 ca3 cb0 cb1 cb2 cb3
                replace ca := ca.below hb1
                replace cb := cb.below hb1
                replace hB0 := below_then hB0 hB0.size hb1
                clear hb1
                obtain ⟨ca0, ca1, ca2, ca3⟩ := id ca
                obtain ⟨cb0, cb1, cb2, cb3⟩ := id cb
                rw [hb.out]
                go_wp2_with fail
                refine (hl1.out _).mono ?_
                rintro e w3 ⟨rfl, hb1⟩
                clear ca0 ca1 ca2 ca3 cb0 cb1 cb2 cb3
                replace ca := ca.below hb1
                replace cb := cb.below hb1
                replace hB0 := below_then hB0 hB0.size hb1
                clear hb1
                obtain ⟨ca0, ca1, ca2, ca3⟩ := id ca
                obtain ⟨cb0, cb1, cb2, cb3⟩ := id cb
                go_wp2_with fail
                refine (hl2.out _).mono ?_
                rintro e w4 ⟨rfl, hb1⟩
                clear ca0 ca1 ca2 ca3 cb0 cb1 cb2 cb3
                replace ca := ca.below hb1
                replace cb := cb.below hb1
                replace hB0 := below_then hB0 hB0.size hb1
                clear hb1
                obtain ⟨ca0, ca1, ca2, ca3⟩ := id ca
                obtain ⟨cb0, cb1, cb2, cb3⟩ := id cb
                go_wp2_with fail
                refine (hm1.out _).mono ?_
                rintro e w5 ⟨rfl, rfl⟩
                go_wp2_with fail
                refine (hm2.out _).mono ?_
                rintro e w6 ⟨rfl, rfl⟩
                go_wp2
                go_ret
                exact ⟨by rw [hbe.out, ← HL.out, hv.out]; rfl, hB0⟩
            · have d2 : (h == k) = false := beq_eq_false_iff_ne.2 q2
              clear q2
              have hv := Lib.hid (show lexB h l k m = false by unfold lexB; simp [d1, d2])
              clear HL2
              have d2' : (k == h) = false := by rw [beq_eq_false_iff_ne] at d2 ⊢; exact fun e => d2 e.symm
              go_enter Try.func10, Try.ntmps10
              go_wp2_with fail
              refine (vFits a _).mono ?_
              rintro e w1 ⟨rfl, hb1⟩
              clear ca0 ca1 ca2 ca3 cb0 cb1 cb2 cb3
              replace ca := ca.below hb1
              replace cb := cb.below hb1
              replace hB0 := below_then hB0 hB0.size hb1
              clear hb1
              obtain ⟨ca0, ca1, ca2, ca3⟩ := id ca
              obtain ⟨cb0, cb1, cb2, cb3⟩ := id cb
              rw [ha.out]
              go_wp2_with fail
              refine (vFits b _).mono ?_
              rintro e w2 ⟨rfl, hb1⟩
              clear ca0 ca1 ca2 ca3 cb0 cb1 cb2 cb3
              replace ca := ca.below hb1
              replace cb := cb.below hb1
              replace hB0 := below_then hB0 hB0.size hb1
              clear hb1
              obtain ⟨ca0, ca1, ca2, ca3⟩ := id ca
              obtain ⟨cb0, cb1, cb2, cb3⟩ := id cb
              rw [hb.out]
              go_wp2_with fail
              refine (hl1.out _).mono ?_
              rintro e w3 ⟨rfl, hb1⟩
              clear ca0 ca1 ca2 ca3 cb0 cb1 cb2 cb3
              replace ca := ca.below hb1
              replace cb := cb.below hb1
              replace hB0 := below_then hB0 hB0.size hb1
              clear hb1
              obtain ⟨ca0, ca1, ca2, ca3⟩ := id ca
              obtain ⟨cb0, cb1, cb2, cb3⟩ := id cb
              go_wp2_with fail
              refine (hl2.out _).mono ?_
              rintro e w4 ⟨rfl, hb1⟩
              clear ca0 ca1 ca2 ca3 cb0 cb1 cb2 cb3
              replace ca := ca.below hb1
              replace cb := cb.below hb1
              replace hB0 := below_then hB0 hB0.size hb1
              clear hb1
              obtain ⟨ca0, ca1, ca2, ca3⟩ := id ca
              obtain ⟨cb0, cb1, cb2, cb3⟩ := id cb
              go_wp2_with fail
              refine (hm1.out _).mono ?_
              rintro e w5 ⟨rfl, rfl⟩
              go_wp2_with fail
              refine (hm2.out _).mono ?_
              rintro e w6 ⟨rfl, rfl⟩
              go_wp2
              go_ret
              exact ⟨by rw [hbe.out, ← HL.out, hv.out]; rfl, hB0⟩
end Go.Proofs.Ytnjmllkcodppgaa
