/- The walk of the law BandUnlink. -/
import Derived.Test.YtmodhmcpljabcaaN
namespace Go.Proofs.Ytmodhmcpljabcaa
open Go.RowKit
set_option linter.unusedVariables false

theorem same_eq (A : Option Addr) (c : Nat) (l : List BI) (A' : Option Addr) (c' : Nat) (w : World) (hl : l.length ≤ 1000) (h : Bs w A l) (h' : Bs w A' l) :
    Calls Try.prog 19 #[.slice A l.length c, .slice A' l.length c'] w fun e w' => e = .returned (.bool true) ∧ Quiet w w' := by
  have := refSame A c l A' c' l w hl hl h h'
  rwa [sameL_self] at this

set_option maxHeartbeats 8000000 in
theorem lawUnlink (A : Option Addr) (c : Nat) (l : List BI) (size band now : Int) (w : World) (hl : l.length ≤ 9223372036854775807) (h : Bs w A l) :
    Calls Try.prog 6 #[.agg #[.slice A l.length c, .int .i64 size, .int .i64 band, .int .u64 now]] w fun e w' => e = .returned (.bool true) ∧ Below w.heap.size w w' := by
  have hb0 : Below w.heap.size w (w.alloc (.cells #[.slice A l.length c, .int .i64 size, .int .i64 band, .int .u64 now] 29)) := (Below.refl _ _).alloc (Nat.le_refl _) _
  have hc := Cnt.new w A l.length c size band now
  by_cases hlt : l.length ≤ 100
  · have hl1 : l.length ≤ 1000 := by omega
    have hn1 := unlR_len l band
    have hn2 := rstR_len l band
    replace h := h.below hb0
    go_enter Try.func6, Try.ntmps6
    go_wp2_with fail
    generalize w.alloc _ = W at *
    refine (awake _).mono ?_
    rintro e w1 ⟨rfl, hb1⟩
    replace h := h.below hb1
    replace hc := hc.below hb1
    replace hb0 := below_then hb0 hb0.size hb1
    clear hb1
    obtain ⟨hc0, hc1, hc2, hc3⟩ := id hc
    go_wp2_with fail
    refine (copied A c l _ hl1 h).mono ?_
    rintro e w2 ⟨v0, rfl, ho, hb1⟩
    replace h := h.below hb1
    replace hc := hc.below hb1
    replace hb0 := below_then hb0 hb0.size hb1
    clear hb1 hc0 hc1 hc2 hc3
    obtain ⟨hc0, hc1, hc2, hc3⟩ := id hc
    obtain ⟨A0, c0, rfl, ho, _⟩ := ho.slice
    go_wp2_with fail
    refine (bandUnlink_any A0 c0 l band _ hl1 ho).mono ?_
    rintro e w3 ⟨A1, c1, rfl, h1, hb1⟩
    replace h := h.below hb1
    replace ho := ho.below hb1
    replace hc := hc.below hb1
    replace hb0 := below_then hb0 hb0.size hb1
    clear hb1 hc0 hc1 hc2 hc3
    obtain ⟨hc0, hc1, hc2, hc3⟩ := id hc
    go_wp2_with fail
    refine (refUnlink_any A c l band _ hl1 h).mono ?_
    rintro e w4 ⟨A2, c2, rfl, h2, hb1⟩
    replace h := h.below hb1
    replace ho := ho.below hb1
    replace hc := hc.below hb1
    replace hb0 := below_then hb0 hb0.size hb1
    replace h1 := h1.below hb1
    clear hb1 hc0 hc1 hc2 hc3
    obtain ⟨hc0, hc1, hc2, hc3⟩ := id hc
    go_wp2_with fail
    refine (bandReset_any A0 c0 l band _ hl1 ho).mono ?_
    rintro e w5 ⟨A3, c3, rfl, h3, hb1⟩
    replace h := h.below hb1
    replace ho := ho.below hb1
    replace hc := hc.below hb1
    replace hb0 := below_then hb0 hb0.size hb1
    replace h1 := h1.below hb1
    replace h2 := h2.below hb1
    clear hb1 hc0 hc1 hc2 hc3
    obtain ⟨hc0, hc1, hc2, hc3⟩ := id hc
    go_wp2_with fail
    refine (refReset_any A c l band _ hl1 h).mono ?_
    rintro e w6 ⟨A4, c4, rfl, h4, hb1⟩
    replace h := h.below hb1
    replace ho := ho.below hb1
    replace hc := hc.below hb1
    replace hb0 := below_then hb0 hb0.size hb1
    replace h1 := h1.below hb1
    replace h2 := h2.below hb1
    replace h3 := h3.below hb1
    clear hb1 hc0 hc1 hc2 hc3
    obtain ⟨hc0, hc1, hc2, hc3⟩ := id hc
    generalize unlR l band = r at *
    generalize rstR l band = q at *
    obtain ⟨r1, r2⟩ := r
    obtain ⟨q1, q2⟩ := q
    simp only at h1 h2 h3 h4 hn1 hn2 ⊢
    have er : (r2 == r2) = true := by simp
    have eq_ : (q2 == q2) = true := by simp
    go_wp2_with fail
    refine (same_eq A1 c1 r1 A2 c2 _ (by omega) h1 h2).mono ?_
    rintro e w7 ⟨rfl, hq⟩
    have hb1 := hq.below
    clear hq
    replace h := h.below hb1
    replace ho := ho.below hb1
    replace hc := hc.below hb1
    replace hb0 := below_then hb0 hb0.size hb1
    replace h3 := h3.below hb1
    replace h4 := h4.below hb1
    clear hb1 hc0 hc1 hc2 hc3
    obtain ⟨hc0, hc1, hc2, hc3⟩ := id hc
    go_wp2_with fail
    refine (same_eq A3 c3 q1 A4 c4 _ (by omega) h3 h4).mono ?_
    rintro e w8 ⟨rfl, hq⟩
    have hb1 := hq.below
    clear hq
    replace h := h.below hb1
    replace ho := ho.below hb1
    replace hc := hc.below hb1
    replace hb0 := below_then hb0 hb0.size hb1
    clear hb1 hc0 hc1 hc2 hc3
    obtain ⟨hc0, hc1, hc2, hc3⟩ := id hc
    go_wp2_with fail
    refine (same_eq A0 c0 l A c _ hl1 ho h).mono ?_
    rintro e w9 ⟨rfl, hq⟩
    go_wp2
    go_ret
    exact ⟨rfl, below_then hb0 hb0.size hq.below⟩
  · have hgt : 100 < l.length := by omega
    clear hlt
    obtain ⟨hc0, hc1, hc2, hc3⟩ := id hc
    go_enter Try.func6, Try.ntmps6
    go_wp2_with fail
    generalize w.alloc _ = W at *
    refine (awake _).mono ?_
    rintro e w1 ⟨rfl, hb1⟩
    replace hc0 := cell_below hb1 hc0
    go_wp2_with fail
    refine (awake _).mono ?_
    rintro e w2 ⟨rfl, hb2⟩
    go_wp2
    go_ret
    exact ⟨rfl, below_then (below_then hb0 hb0.size hb1) (below_then hb0 hb0.size hb1).size hb2⟩
end Go.Proofs.Ytmodhmcpljabcaa
