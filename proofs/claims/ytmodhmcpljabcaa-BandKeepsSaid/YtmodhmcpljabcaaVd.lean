/- The walk of the law BandKeeps. -/
import Derived.Test.YtmodhmcpljabcaaO
import Derived.Test.YtmodhmcpljabcaaR
namespace Go.Proofs.Ytmodhmcpljabcaa
open Go.RowKit
set_option linter.unusedVariables false

theorem validT (A : Option Addr) (c : Nat) (l : List BI) (size : Int) (w : World) (h : Bs w A l) (hv : vld l size = true) :
    Calls Try.prog 10 #[.slice A l.length c, .int .i64 size] w fun e w' => e = .returned (.bool true) ∧ Below w.heap.size w w' := by
  have hn := ((vld_iff _ _).1 hv).2.1
  have := bandValid A c l size w (by omega) h
  rwa [hv] at this

set_option maxHeartbeats 8000000 in
theorem lawKeeps (A : Option Addr) (c : Nat) (l : List BI) (size band now : Int) (w : World) (hl : l.length ≤ 9223372036854775807) (h : Bs w A l) (hok : ∀ b ∈ l, okB b) (hsz : (Lit.int .i64 size).wf = true) :
    Calls Try.prog 7 #[.agg #[.slice A l.length c, .int .i64 size, .int .i64 band, .int .u64 now]] w fun e w' => e = .returned (.bool true) ∧ Below w.heap.size w w' := by
  have hb0 : Below w.heap.size w (w.alloc (.cells #[.slice A l.length c, .int .i64 size, .int .i64 band, .int .u64 now] 29)) := (Below.refl _ _).alloc (Nat.le_refl _) _
  have hc := Cnt.new w A l.length c size band now
  have hs63 := (wf64 hsz).2
  replace h := h.below hb0
  cases hv : vld l size with
  | false =>
    have hv' := Lib.hid hv
    clear hv
    go_enter Try.func7, Try.ntmps7
    go_wp2_with fail
    generalize w.alloc _ = W at *
    refine (awake _).mono ?_
    rintro e w1 ⟨rfl, hb1⟩
    replace h := h.below hb1
    replace hc := hc.below hb1
    replace hb0 := below_then hb0 hb0.size hb1
    clear hb1
    obtain ⟨hc0, hc1, hc2, hc3⟩ := id hc
    go_wp2_with fail
    refine (refValid A c l size _ hl h).mono ?_
    rintro e w2 ⟨rfl, hq⟩
    have hb1 := hq.below
    clear hq
    replace h := h.below hb1
    replace hc := hc.below hb1
    replace hb0 := below_then hb0 hb0.size hb1
    clear hb1 hc0 hc1 hc2 hc3
    obtain ⟨hc0, hc1, hc2, hc3⟩ := id hc
    rw [hv'.out]
    go_wp2_with fail
    refine (awake _).mono ?_
    rintro e w3 ⟨rfl, hb1⟩
    go_wp2
    go_ret
    exact ⟨rfl, below_then hb0 hb0.size hb1⟩
  | true =>
    have hl64 := ((vld_iff _ _).1 hv).2.1
    have hl1 : l.length ≤ 1000 := by omega
    have hv' := Lib.hid hv
    have k1 := Lib.hid (keeps_app band now hv hs63)
    have k2 := Lib.hid (keeps_unl band hv hs63)
    have k3 := Lib.hid (keeps_rst band hv)
    clear hv
    go_enter Try.func7, Try.ntmps7
    go_wp2_with fail
    generalize w.alloc _ = W at *
    refine (awake _).mono ?_
    rintro e w1 ⟨rfl, hb1⟩
    replace h := h.below hb1
    replace hc := hc.below hb1
    replace hb0 := below_then hb0 hb0.size hb1
    clear hb1
    obtain ⟨hc0, hc1, hc2, hc3⟩ := id hc
    go_wp2_with fail
    refine (refValid A c l size _ hl h).mono ?_
    rintro e w2 ⟨rfl, hq⟩
    have hb1 := hq.below
    clear hq
    replace h := h.below hb1
    replace hc := hc.below hb1
    replace hb0 := below_then hb0 hb0.size hb1
    clear hb1 hc0 hc1 hc2 hc3
    obtain ⟨hc0, hc1, hc2, hc3⟩ := id hc
    rw [hv'.out]
    go_wp2_with fail
    refine (bandAppend_any A c l size band now _ hl1 h).mono ?_
    rintro e w3 ⟨A1, c1, rfl, h1, hb1⟩
    replace h := h.below hb1
    replace hc := hc.below hb1
    replace hb0 := below_then hb0 hb0.size hb1
    clear hb1 hc0 hc1 hc2 hc3
    obtain ⟨hc0, hc1, hc2, hc3⟩ := id hc
    go_wp2_with fail
    refine (bandUnlink_any A c l band _ hl1 h).mono ?_
    rintro e w4 ⟨A2, c2, rfl, h2, hb1⟩
    replace h := h.below hb1
    replace hc := hc.below hb1
    replace hb0 := below_then hb0 hb0.size hb1
    replace h1 := h1.below hb1
    clear hb1 hc0 hc1 hc2 hc3
    obtain ⟨hc0, hc1, hc2, hc3⟩ := id hc
    go_wp2_with fail
    refine (bandReset_any A c l band _ hl1 h).mono ?_
    rintro e w5 ⟨A3, c3, rfl, h3, hb1⟩
    replace h := h.below hb1
    replace hc := hc.below hb1
    replace hb0 := below_then hb0 hb0.size hb1
    replace h1 := h1.below hb1
    replace h2 := h2.below hb1
    clear hb1 hc0 hc1 hc2 hc3
    obtain ⟨hc0, hc1, hc2, hc3⟩ := id hc
    generalize appR l size band now = r at *
    generalize unlR l band = q at *
    generalize rstR l band = s at *
    obtain ⟨r1, r2⟩ := r
    obtain ⟨q1, q2⟩ := q
    obtain ⟨s1, s2⟩ := s
    simp only at h1 h2 h3 ⊢
    by_cases e1 : r2 = 0
    · have t1 := Lib.hid (k1.out e1)
      have b1 : (r2 != 0) = false := by rw [e1]; rfl
      clear e1 k1
      by_cases e2 : q2 = 0
      · have t2 := Lib.hid (k2.out e2)
        have b2 : (q2 != 0) = false := by rw [e2]; rfl
        clear e2 k2
        by_cases e3 : s2 = 0
        · have t3 := Lib.hid (k3.out e3)
          have b3 : (s2 != 0) = false := by rw [e3]; rfl
          clear e3 k3
          go_wp2_with fail
          refine (validT A1 c1 r1 size _ h1 t1.out).mono ?_
          rintro e wx0 ⟨rfl, hb1⟩
          replace hc := hc.below hb1
          replace hb0 := below_then hb0 hb0.size hb1
          replace h2 := h2.below hb1
          replace h3 := h3.below hb1
          clear hb1 hc0 hc1 hc2 hc3
          obtain ⟨hc0, hc1, hc2, hc3⟩ := id hc
          go_wp2_with fail
          refine (validT A2 c2 q1 size _ h2 t2.out).mono ?_
          rintro e wx1 ⟨rfl, hb1⟩
          replace hc := hc.below hb1
          replace hb0 := below_then hb0 hb0.size hb1
          replace h3 := h3.below hb1
          clear hb1 hc0 hc1 hc2 hc3
          obtain ⟨hc0, hc1, hc2, hc3⟩ := id hc
          go_wp2_with fail
          refine (validT A3 c3 s1 size _ h3 t3.out).mono ?_
          rintro e wx2 ⟨rfl, hb1⟩
          replace hc := hc.below hb1
          replace hb0 := below_then hb0 hb0.size hb1
          clear hb1 hc0 hc1 hc2 hc3
          obtain ⟨hc0, hc1, hc2, hc3⟩ := id hc
          go_wp2
          go_ret
          exact ⟨rfl, hb0⟩
        · have b3 : (s2 != 0) = true := bne_iff_ne.2 e3
          clear e3 k3
          go_wp2_with fail
          refine (validT A1 c1 r1 size _ h1 t1.out).mono ?_
          rintro e wx0 ⟨rfl, hb1⟩
          replace hc := hc.below hb1
          replace hb0 := below_then hb0 hb0.size hb1
          replace h2 := h2.below hb1
          clear hb1 hc0 hc1 hc2 hc3
          obtain ⟨hc0, hc1, hc2, hc3⟩ := id hc
          go_wp2_with fail
          refine (validT A2 c2 q1 size _ h2 t2.out).mono ?_
          rintro e wx1 ⟨rfl, hb1⟩
          replace hc := hc.below hb1
          replace hb0 := below_then hb0 hb0.size hb1
          clear hb1 hc0 hc1 hc2 hc3
          obtain ⟨hc0, hc1, hc2, hc3⟩ := id hc
          go_wp2
          go_ret
          exact ⟨rfl, hb0⟩
      · have b2 : (q2 != 0) = true := bne_iff_ne.2 e2
        clear e2 k2
        by_cases e3 : s2 = 0
        · have t3 := Lib.hid (k3.out e3)
          have b3 : (s2 != 0) = false := by rw [e3]; rfl
          clear e3 k3
          go_wp2_with fail
          refine (validT A1 c1 r1 size _ h1 t1.out).mono ?_
          rintro e wx0 ⟨rfl, hb1⟩
          replace hc := hc.below hb1
          replace hb0 := below_then hb0 hb0.size hb1
          replace h3 := h3.below hb1
          clear hb1 hc0 hc1 hc2 hc3
          obtain ⟨hc0, hc1, hc2, hc3⟩ := id hc
          go_wp2_with fail
          refine (validT A3 c3 s1 size _ h3 t3.out).mono ?_
          rintro e wx2 ⟨rfl, hb1⟩
          replace hc := hc.below hb1
          replace hb0 := below_then hb0 hb0.size hb1
          clear hb1 hc0 hc1 hc2 hc3
          obtain ⟨hc0, hc1, hc2, hc3⟩ := id hc
          go_wp2
          go_ret
          exact ⟨rfl, hb0⟩
        · have b3 : (s2 != 0) = true := bne_iff_ne.2 e3
          clear e3 k3
          go_wp2_with fail
          refine (validT A1 c1 r1 size _ h1 t1.out).mono ?_
          rintro e wx0 ⟨rfl, hb1⟩
          replace hc := hc.below hb1
          replace hb0 := below_then hb0 hb0.size hb1
          clear hb1 hc0 hc1 hc2 hc3
          obtain ⟨hc0, hc1, hc2, hc3⟩ := id hc
          go_wp2
          go_ret
          exact ⟨rfl, hb0⟩
    · have b1 : (r2 != 0) = true := bne_iff_ne.2 e1
      clear e1 k1
      by_cases e2 : q2 = 0
      · have t2 := Lib.hid (k2.out e2)
        have b2 : (q2 != 0) = false := by rw [e2]; rfl
        clear e2 k2
        by_cases e3 : s2 = 0
        · have t3 := Lib.hid (k3.out e3)
          have b3 : (s2 != 0) = false := by rw [e3]; rfl
          clear e3 k3
          go_wp2_with fail
          refine (validT A2 c2 q1 size _ h2 t2.out).mono ?_
          rintro e wx1 ⟨rfl, hb1⟩
          replace hc := hc.below hb1
          replace hb0 := below_then hb0 hb0.size hb1
          replace h3 := h3.below hb1
          clear hb1 hc0 hc1 hc2 hc3
          obtain ⟨hc0, hc1, hc2, hc3⟩ := id hc
          go_wp2_with fail
          refine (validT A3 c3 s1 size _ h3 t3.out).mono ?_
          rintro e wx2 ⟨rfl, hb1⟩
          replace hc := hc.below hb1
          replace hb0 := below_then hb0 hb0.size hb1
          clear hb1 hc0 hc1 hc2 hc3
          obtain ⟨hc0, hc1, hc2, hc3⟩ := id hc
          go_wp2
          go_ret
          exact ⟨rfl, hb0⟩
        · have b3 : (s2 != 0) = true := bne_iff_ne.2 e3
          clear e3 k3
          go_wp2_with fail
          refine (validT A2 c2 q1 size _ h2 t2.out).mono ?_
          rintro e wx1 ⟨rfl, hb1⟩
          replace hc := hc.below hb1
          replace hb0 := below_then hb0 hb0.size hb1
          clear hb1 hc0 hc1 hc2 hc3
          obtain ⟨hc0, hc1, hc2, hc3⟩ := id hc
          go_wp2
          go_ret
          exact ⟨rfl, hb0⟩
      · have b2 : (q2 != 0) = true := bne_iff_ne.2 e2
        clear e2 k2
        by_cases e3 : s2 = 0
        · have t3 := Lib.hid (k3.out e3)
          have b3 : (s2 != 0) = false := by rw [e3]; rfl
          clear e3 k3
          go_wp2_with fail
          refine (validT A3 c3 s1 size _ h3 t3.out).mono ?_
          rintro e wx2 ⟨rfl, hb1⟩
          replace hc := hc.below hb1
          replace hb0 := below_then hb0 hb0.size hb1
          clear hb1 hc0 hc1 hc2 hc3
          obtain ⟨hc0, hc1, hc2, hc3⟩ := id hc
          go_wp2
          go_ret
          exact ⟨rfl, hb0⟩
        · have b3 : (s2 != 0) = true := bne_iff_ne.2 e3
          clear e3 k3
          go_wp2
          go_ret
          exact ⟨rfl, hb0⟩
end Go.Proofs.Ytmodhmcpljabcaa
