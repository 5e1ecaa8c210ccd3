/- The walk of the law BandValid. -/
import Derived.Test.YtmodhmcpljabcaaL
namespace Go.Proofs.Ytmodhmcpljabcaa
open Go.RowKit
set_option linter.unusedVariables false

set_option maxHeartbeats 2000000 in
theorem lawValid (A : Option Addr) (c : Nat) (l : List BI) (size : Int) (w : World) (hl : l.length ≤ 9223372036854775807) (h : Bs w A l) :
    Calls Try.prog 3 #[.slice A l.length c, .int .i64 size] w fun e w' => e = .returned (.bool true) ∧ Below w.heap.size w w' := by
  by_cases hlt : l.length ≤ 100
  · have hl1 : l.length ≤ 1000 := by omega
    go_enter Try.func3, Try.ntmps3
    go_wp2_with fail
    refine (awake _).mono ?_
    rintro e w1 ⟨rfl, hb1⟩
    replace h := h.below hb1
    go_wp2_with fail
    refine (bandValid A c l size _ hl1 h).mono ?_
    rintro e w2 ⟨rfl, hb2⟩
    replace h := h.below hb2
    replace hb1 := below_then hb1 hb1.size hb2
    clear hb2
    go_wp2_with fail
    refine (refValid A c l size _ hl h).mono ?_
    rintro e w3 ⟨rfl, hq⟩
    replace h := h.below hq.below
    replace hb1 := below_then hb1 hb1.size hq.below
    clear hq
    generalize vld l size = v
    have hv : (v == v) = true := by simp
    go_wp2_with fail
    refine (bandFree A c l _ hl1 h).mono ?_
    rintro e w4 ⟨rfl, hb2⟩
    replace h := h.below hb2
    replace hb1 := below_then hb1 hb1.size hb2
    clear hb2
    go_wp2_with fail
    refine (refFree A c l _ hl1 h).mono ?_
    rintro e w5 ⟨rfl, rfl⟩
    go_wp2_with fail
    refine (bandOpen A c l size _ hl1 h).mono ?_
    rintro e w4 ⟨rfl, hb2⟩
    replace h := h.below hb2
    replace hb1 := below_then hb1 hb1.size hb2
    clear hb2
    go_wp2_with fail
    refine (refOpen A c l size _ hl1 h).mono ?_
    rintro e w6 ⟨rfl, hq⟩
    replace hb1 := below_then hb1 hb1.size hq.below
    go_wp2
    go_ret
    exact ⟨rfl, hb1⟩
  · have hgt : 100 < l.length := by omega
    clear hlt
    go_enter Try.func3, Try.ntmps3
    go_wp2_with fail
    refine (awake _).mono ?_
    rintro e w1 ⟨rfl, hb1⟩
    go_wp2_with fail
    refine (awake _).mono ?_
    rintro e w2 ⟨rfl, hb2⟩
    go_wp2
    go_ret
    exact ⟨rfl, below_then hb1 hb1.size hb2⟩
end Go.Proofs.Ytmodhmcpljabcaa
