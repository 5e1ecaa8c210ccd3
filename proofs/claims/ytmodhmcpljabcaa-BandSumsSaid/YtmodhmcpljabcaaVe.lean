/- The walk of the law BandSums. -/
import Derived.Test.YtmodhmcpljabcaaO
import Derived.Test.YtmodhmcpljabcaaR
namespace Go.Proofs.Ytmodhmcpljabcaa
open Go.RowKit
set_option linter.unusedVariables false

theorem liveT (A : Option Addr) (c : Nat) (l : List BI) (m : Int) (w : World) (hl : l.length ≤ 1000) (h : Bs w A l) (hm : liveTo l l.length = m) :
    Calls Try.prog 24 #[.slice A l.length c] w fun e w' => e = .returned (.int .i64 m) ∧ w' = w := by
  have := refLive A c l w hl h
  rw [hm] at this
  exact this.mono fun _ _ ⟨a, b⟩ => ⟨a, b.symm⟩

set_option maxHeartbeats 2000000 in
theorem lawSums (A : Option Addr) (c : Nat) (l : List BI) (size band now : Int) (w : World) (hl : l.length ≤ 9223372036854775807) (h : Bs w A l) (hok : ∀ b ∈ l, okB b) (hsz : (Lit.int .i64 size).wf = true) :
    Calls Try.prog 8 #[.agg #[.slice A l.length c, .int .i64 size, .int .i64 band, .int .u64 now]] w fun e w' => e = .returned (.bool true) ∧ Below w.heap.size w w' := by
  have hb0 : Below w.heap.size w (w.alloc (.cells #[.slice A l.length c, .int .i64 size, .int .i64 band, .int .u64 now] 29)) := (Below.refl _ _).alloc (Nat.le_refl _) _
  have hc := Cnt.new w A l.length c size band now
  have hs63 := (wf64 hsz).2
  replace h := h.below hb0
  cases hv : vld l size with
  | false =>
    have hv' := Lib.hid hv
    clear hv
    go_enter Try.func8, Try.ntmps8
    go_wp2_with fail
    generalize w.alloc _ = W at *
    refine (awake _).mono ?_
    rintro e w1 ⟨rfl, hb1⟩
    replace h := h.below hb1
    replace hc := hc.below hb1
    replace hb0 := below_then hb0 hb0.size hb1
    clear hb1
    obtain ⟨hc0, hc1, hc2, hc3⟩ := id hc
    go_wp2_with fail
    refine (refValid A c l size _ hl h).mono ?_
    rintro e w2 ⟨rfl, hq⟩
    have hb1 := hq.below
    clear hq
    replace h := h.below hb1
    replace hc := hc.below hb1
    replace hb0 := below_then hb0 hb0.size hb1
    clear hb1 hc0 hc1 hc2 hc3
    obtain ⟨hc0, hc1, hc2, hc3⟩ := id hc
    rw [hv'.out]
    go_wp2_with fail
    refine (awake _).mono ?_
    rintro e w3 ⟨rfl, hb1⟩
    go_wp2
    go_ret
    exact ⟨rfl, below_then hb0 hb0.size hb1⟩
  | true =>
    have hv' := Lib.hid hv
    by_cases hbig : 1099511627776 < size
    · clear hv
      go_enter Try.func8, Try.ntmps8
      go_wp2_with fail
      generalize w.alloc _ = W at *
      refine (awake _).mono ?_
      rintro e w1 ⟨rfl, hb1⟩
      replace h := h.below hb1
      replace hc := hc.below hb1
      replace hb0 := below_then hb0 hb0.size hb1
      clear hb1
      obtain ⟨hc0, hc1, hc2, hc3⟩ := id hc
      go_wp2_with fail
      refine (refValid A c l size _ hl h).mono ?_
      rintro e w2 ⟨rfl, hq⟩
      have hb1 := hq.below
      clear hq
      replace h := h.below hb1
      replace hc := hc.below hb1
      replace hb0 := below_then hb0 hb0.size hb1
      clear hb1 hc0 hc1 hc2 hc3
      obtain ⟨hc0, hc1, hc2, hc3⟩ := id hc
      rw [hv'.out]
      go_wp2_with fail
      refine (awake _).mono ?_
      rintro e w3 ⟨rfl, hb1⟩
      go_wp2
      go_ret
      exact ⟨rfl, below_then hb0 hb0.size hb1⟩
    · have hsm : size ≤ 1099511627776 := by omega
      clear hbig
      have hl64 := ((vld_iff _ _).1 hv).2.1
      have hl1 : l.length ≤ 1000 := by omega
      obtain ⟨hn, hn0, hn1⟩ := live_sum l size hv hsm
      have hr1 := appR_len l size band now
      have hr2 := unlR_len l band
      have hr3 := rstR_len l band
      go_enter Try.func8, Try.ntmps8
      go_wp2_with fail
      generalize w.alloc _ = W at *
      refine (awake _).mono ?_
      rintro e w1 ⟨rfl, hb1⟩
      replace h := h.below hb1
      replace hc := hc.below hb1
      replace hb0 := below_then hb0 hb0.size hb1
      clear hb1
      obtain ⟨hc0, hc1, hc2, hc3⟩ := id hc
      have hn_ := Lib.hid hn
      clear hn
      have hvv := Lib.hid hv
      clear hv
      go_wp2_with fail
      refine (refValid A c l size _ hl h).mono ?_
      rintro e w2 ⟨rfl, hq⟩
      have hb1 := hq.below
      clear hq
      replace h := h.below hb1
      replace hc := hc.below hb1
      replace hb0 := below_then hb0 hb0.size hb1
      clear hb1 hc0 hc1 hc2 hc3
      obtain ⟨hc0, hc1, hc2, hc3⟩ := id hc
      rw [hv'.out]
      go_wp2_with fail
      refine (liveT A c l _ _ hl1 h hn_.out).mono ?_
      rintro e w3 ⟨rfl, rfl⟩
      clear hn_
      go_wp2_with fail
      refine (bandAppend_any A c l size band now _ hl1 h).mono ?_
      rintro e w3 ⟨A1, c1, rfl, h1, hb1⟩
      replace h := h.below hb1
      replace hc := hc.below hb1
      replace hb0 := below_then hb0 hb0.size hb1
      clear hb1 hc0 hc1 hc2 hc3
      obtain ⟨hc0, hc1, hc2, hc3⟩ := id hc
      go_wp2_with fail
      refine (bandUnlink_any A c l band _ hl1 h).mono ?_
      rintro e w4 ⟨A2, c2, rfl, h2, hb1⟩
      replace h := h.below hb1
      replace hc := hc.below hb1
      replace hb0 := below_then hb0 hb0.size hb1
      replace h1 := h1.below hb1
      clear hb1 hc0 hc1 hc2 hc3
      obtain ⟨hc0, hc1, hc2, hc3⟩ := id hc
      go_wp2_with fail
      refine (bandReset_any A c l band _ hl1 h).mono ?_
      rintro e w5 ⟨A3, c3, rfl, h3, hb1⟩
      replace h := h.below hb1
      replace hc := hc.below hb1
      replace hb0 := below_then hb0 hb0.size hb1
      replace h1 := h1.below hb1
      replace h2 := h2.below hb1
      clear hb1 hc0 hc1 hc2 hc3
      obtain ⟨hc0, hc1, hc2, hc3⟩ := id hc
      rcases in_or band (l := l) with ⟨i, rfl, hi⟩ | ho
      · have hm := vld_mem hvv.out hi
        have k3 : (rstR l i).2 = 0 ∧ liveTo (rstR l i).1 (rstR l i).1.length = sumL l - l[i].live := by
          rw [rstR_in hi]
          exact ⟨rfl, by rw [live_set l size i _ hvv.out hsm hi (by simp [rstB])]; simp [rstB]⟩
        obtain ⟨ad, rfl, x0, x1, x2, x3⟩ := h.at_ hi
        by_cases he : l[i].used < size
        · have k1 : (appR l size i now).2 = 0 ∧ liveTo (appR l size i now).1 (appR l size i now).1.length = sumL l + 1 := by
            have e1 : (appB now l[i]).live = l[i].live + 1 := by simp only [appB]; exact w64 (by omega) (by omega)
            rw [appR_in hi he]
            exact ⟨rfl, by rw [live_set l size i _ hvv.out hsm hi (by rw [e1]; omega), e1]; omega⟩
          by_cases hf : 1 ≤ l[i].live
          · have k2 : (unlR l i).2 = 0 ∧ liveTo (unlR l i).1 (unlR l i).1.length = sumL l - 1 := by
              have e1 : (unlB l[i]).live = l[i].live - 1 := by simp only [unlB]; exact w64 (by omega) (by omega)
              rw [unlR_in hi hf]
              exact ⟨rfl, by rw [live_set l size i _ hvv.out hsm hi (by rw [e1]; omega), e1]; omega⟩
            clear he hf
            generalize appR l size i now = r at *
            generalize unlR l i = q at *
            generalize rstR l i = z at *
            obtain ⟨r1, r2⟩ := r
            obtain ⟨q1, q2⟩ := q
            obtain ⟨z1, z2⟩ := z
            simp only at h1 h2 h3 hr1 hr2 hr3 k1 k2 k3 ⊢
            obtain ⟨rfl, t1⟩ := k1
            obtain ⟨rfl, t2⟩ := k2
            obtain ⟨rfl, t3⟩ := k3
            replace t1 := Lib.hid t1
            replace t2 := Lib.hid t2
            replace t3 := Lib.hid t3
            go_wp2_with fail
            refine (liveT A1 c1 r1 (sumL l + 1) _ (by omega) h1 t1.out).mono ?_
            rintro e wx ⟨rfl, rfl⟩
            go_wp2_with fail
            refine (liveT A2 c2 q1 (sumL l - 1) _ (by omega) h2 t2.out).mono ?_
            rintro e wx ⟨rfl, rfl⟩
            go_wp2
            go_quiet ((go_at_call 24; exact Calls.quiet_of_same (liveT A3 c3 z1 (sumL l - l[i].live) _ (by omega) (h3.below (below_drewN (Below.refl _ _) _)) t3.out)))
            go_wp2
            go_ret
            exact ⟨rfl, by first | exact below_drewN hb0 _ | exact hb0⟩
          · have k2 : (unlR l i).2 = 8 ∧ True := by
              rw [unlR_none hi (by omega)]
              exact ⟨rfl, trivial⟩
            clear he hf
            generalize appR l size i now = r at *
            generalize unlR l i = q at *
            generalize rstR l i = z at *
            obtain ⟨r1, r2⟩ := r
            obtain ⟨q1, q2⟩ := q
            obtain ⟨z1, z2⟩ := z
            simp only at h1 h2 h3 hr1 hr2 hr3 k1 k2 k3 ⊢
            obtain ⟨rfl, t1⟩ := k1
            obtain ⟨rfl, t2⟩ := k2
            obtain ⟨rfl, t3⟩ := k3
            replace t1 := Lib.hid t1
            replace t2 := Lib.hid t2
            replace t3 := Lib.hid t3
            go_wp2_with fail
            refine (liveT A1 c1 r1 (sumL l + 1) _ (by omega) h1 t1.out).mono ?_
            rintro e wx ⟨rfl, rfl⟩
            go_wp2
            go_quiet ((go_at_call 24; exact Calls.quiet_of_same (liveT A3 c3 z1 (sumL l - l[i].live) _ (by omega) (h3.below (below_drewN (Below.refl _ _) _)) t3.out)))
            go_wp2
            go_ret
            exact ⟨rfl, by first | exact below_drewN hb0 _ | exact hb0⟩
        · have k1 : (appR l size i now).2 = 11 ∧ True := by
            rw [appR_full hi (by omega)]
            exact ⟨rfl, trivial⟩
          by_cases hf : 1 ≤ l[i].live
          · have k2 : (unlR l i).2 = 0 ∧ liveTo (unlR l i).1 (unlR l i).1.length = sumL l - 1 := by
              have e1 : (unlB l[i]).live = l[i].live - 1 := by simp only [unlB]; exact w64 (by omega) (by omega)
              rw [unlR_in hi hf]
              exact ⟨rfl, by rw [live_set l size i _ hvv.out hsm hi (by rw [e1]; omega), e1]; omega⟩
            clear he hf
            generalize appR l size i now = r at *
            generalize unlR l i = q at *
            generalize rstR l i = z at *
            obtain ⟨r1, r2⟩ := r
            obtain ⟨q1, q2⟩ := q
            obtain ⟨z1, z2⟩ := z
            simp only at h1 h2 h3 hr1 hr2 hr3 k1 k2 k3 ⊢
            obtain ⟨rfl, t1⟩ := k1
            obtain ⟨rfl, t2⟩ := k2
            obtain ⟨rfl, t3⟩ := k3
            replace t1 := Lib.hid t1
            replace t2 := Lib.hid t2
            replace t3 := Lib.hid t3
            go_wp2_with fail
            refine (liveT A2 c2 q1 (sumL l - 1) _ (by omega) h2 t2.out).mono ?_
            rintro e wx ⟨rfl, rfl⟩
            go_wp2
            go_quiet ((go_at_call 24; exact Calls.quiet_of_same (liveT A3 c3 z1 (sumL l - l[i].live) _ (by omega) (h3.below (below_drewN (Below.refl _ _) _)) t3.out)))
            go_wp2
            go_ret
            exact ⟨rfl, by first | exact below_drewN hb0 _ | exact hb0⟩
          · have k2 : (unlR l i).2 = 8 ∧ True := by
              rw [unlR_none hi (by omega)]
              exact ⟨rfl, trivial⟩
            clear he hf
            generalize appR l size i now = r at *
            generalize unlR l i = q at *
            generalize rstR l i = z at *
            obtain ⟨r1, r2⟩ := r
            obtain ⟨q1, q2⟩ := q
            obtain ⟨z1, z2⟩ := z
            simp only at h1 h2 h3 hr1 hr2 hr3 k1 k2 k3 ⊢
            obtain ⟨rfl, t1⟩ := k1
            obtain ⟨rfl, t2⟩ := k2
            obtain ⟨rfl, t3⟩ := k3
            replace t1 := Lib.hid t1
            replace t2 := Lib.hid t2
            replace t3 := Lib.hid t3
            go_wp2
            go_quiet ((go_at_call 24; exact Calls.quiet_of_same (liveT A3 c3 z1 (sumL l - l[i].live) _ (by omega) (h3.below (below_drewN (Below.refl _ _) _)) t3.out)))
            go_wp2
            go_ret
            exact ⟨rfl, by first | exact below_drewN hb0 _ | exact hb0⟩
      · rw [appR_out ho] at h1 ⊢
        rw [unlR_out ho] at h2 ⊢
        rw [rstR_out ho] at h3 ⊢
        simp only at h1 h2 h3 ⊢
        go_wp2
        go_quiet (fail)
        go_wp2
        go_ret
        exact ⟨rfl, by first | exact below_drewN hb0 _ | exact hb0⟩
end Go.Proofs.Ytmodhmcpljabcaa
