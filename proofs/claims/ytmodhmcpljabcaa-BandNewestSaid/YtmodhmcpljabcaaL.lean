/- Contract of awake: the document's example holds. -/
import Derived.Test.YtmodhmcpljabcaaK
namespace Go.Proofs.Ytmodhmcpljabcaa
open Go.RowKit
set_option linter.unusedVariables false

def L0 : List BI := [⟨4, 0, 5, 0⟩, ⟨2, 0, 3, 0⟩, ⟨0, 0, 0, 0⟩, ⟨1, 0, 9, 0⟩]
def L3 : List BI := [⟨4, 0, 5, 0⟩, ⟨2, 0, 3, 0⟩, ⟨0, 0, 0, 0⟩]
def L1 : List BI := [⟨4, 0, 5, 0⟩, ⟨2, 0, 3, 0⟩, ⟨1, 1, 11, 0⟩, ⟨1, 0, 9, 0⟩]

theorem e_append (p : Addr) (w : World) (h : Bs w (some p) L0) : Calls Try.prog 17 #[.slice (some p) 4 4, .int .i64 4, .int .i64 2, .int .u64 11] w fun e w' => ∃ g c, e = .returned (.tuple #[.slice (some ⟨g, 0, none⟩) 4 c, .int .i64 0]) ∧
    (w'.cell? ⟨g, 8, none⟩ = some (.int .i64 1) ∧ w'.cell? ⟨g, 9, none⟩ = some (.int .i64 1) ∧ w'.cell? ⟨g, 10, none⟩ = some (.int .u64 11) ∧ w'.cell? ⟨g, 11, none⟩ = some (.int .u64 0)) ∧ Below w.heap.size w w' := by
  have e : L0.set 2 (appB 11 (L0[2]'(by decide))) = L1 := by simp [L0, L1, appB, wrap64]
  have k := bandAppend_ok (some p) 4 L0 4 2 11 w (by decide) h (by decide) (by decide)
  rw [e] at k
  have k2 : Calls Try.prog 17 #[.slice (some p) 4 4, .int .i64 4, .int .i64 2, .int .u64 11] w _ := k
  refine k2.mono ?_
  rintro e w' ⟨v, rfl, ho, hb⟩
  obtain ⟨g, c, rfl, _⟩ := ho.to_ptr (by simp [L1])
  have hc := ho.cellAt (i := 2) (by decide)
  exact ⟨g, c, rfl, hc, hb⟩
theorem e_valid (p : Addr) (w : World) (h : Bs w (some p) L0) : Calls Try.prog 10 #[.slice (some p) 4 4, .int .i64 4] w fun e w' => e = .returned (.bool true) ∧ Below w.heap.size w w' :=
  bandValid (some p) 4 L0 4 w (by decide) h
theorem e_open (p : Addr) (w : World) (h : Bs w (some p) L0) : Calls Try.prog 14 #[.slice (some p) 4 4, .int .i64 4] w fun e w' => e = .returned (.int .i64 3) ∧ Below w.heap.size w w' :=
  bandOpen (some p) 4 L0 4 w (by decide) h
theorem e_open3 (p : Addr) (w : World) (h : Bs w (some p) L0) : Calls Try.prog 14 #[.slice (some p) 3 4, .int .i64 4] w fun e w' => e = .returned (.int .i64 1) ∧ Below w.heap.size w w' :=
  bandOpen (some p) 4 L3 4 w (by decide) (h.take 3)
theorem e_free (p : Addr) (w : World) (h : Bs w (some p) L0) : Calls Try.prog 12 #[.slice (some p) 4 4] w fun e w' => e = .returned (.int .i64 1) ∧ Below w.heap.size w w' :=
  bandFree (some p) 4 L0 w (by decide) h

set_option maxHeartbeats 2000000 in
theorem awake (w : World) : Calls Try.prog 9 #[] w fun e w' => e = .returned (.bool true) ∧ Below w.heap.size w w' := by
  have hL : Bs (w.alloc (.cells (flat L0).toArray 35)) (some ⟨w.heap.size, 0, none⟩) L0 := by
    have ho : Own (w.alloc (.cells (flat L0).toArray 35)) w.heap.size (.slice (some ⟨w.heap.size, 0, none⟩) 4 4) L0 := World.ownsRow_lit w (flat L0).toArray 4 (Nat.le_refl _) (by decide) rfl
    obtain ⟨A, c, e, hb, _⟩ := ho.slice
    cases e
    exact hb
  have hB0 : Below w.heap.size w (w.alloc (.cells (flat L0).toArray 35)) := (Below.refl _ _).alloc (Nat.le_refl _) _
  simp only [flat, L0] at hL hB0
  go_enter Try.func9, Try.ntmps9
  go_wp2_with fail
  generalize w.alloc _ = W at *
  generalize hg : w.heap.size = g at hL ⊢
  have hg' := Lib.hid hg
  clear hg
  have hq : ∀ W, (binOp .eql 35 (.agg #[.int .i64 1, .int .i64 1, .int .u64 11, .int .u64 0]) (.agg #[.int .i64 1, .int .i64 1, .int .u64 11, .int .u64 0])).run Try.prog W = .ok (.bool true) W :=
    fun W => run_eql_bands ⟨1, 1, 11, 0⟩ ⟨1, 1, 11, 0⟩ W
  refine (e_append _ _ hL).mono ?_
  rintro e w1 ⟨g1, c1, rfl, ⟨x0, x1, x2, x3⟩, hb1⟩
  replace hL := hL.below hb1
  replace hB0 := below_then hB0 hB0.size hb1
  clear hb1
  go_wp2_with fail
  refine (e_valid _ _ hL).mono ?_
  rintro e w2 ⟨rfl, hb1⟩
  replace hL := hL.below hb1
  replace hB0 := below_then hB0 hB0.size hb1
  replace x0 := cell_below hb1 x0
  replace x1 := cell_below hb1 x1
  replace x2 := cell_below hb1 x2
  replace x3 := cell_below hb1 x3
  clear hb1
  go_wp2_with fail
  refine (e_open _ _ hL).mono ?_
  rintro e w3 ⟨rfl, hb1⟩
  replace hL := hL.below hb1
  replace hB0 := below_then hB0 hB0.size hb1
  replace x0 := cell_below hb1 x0
  replace x1 := cell_below hb1 x1
  replace x2 := cell_below hb1 x2
  replace x3 := cell_below hb1 x3
  clear hb1
  go_wp2_with fail
  refine (e_open3 _ _ hL).mono ?_
  rintro e w4 ⟨rfl, hb1⟩
  replace hL := hL.below hb1
  replace hB0 := below_then hB0 hB0.size hb1
  replace x0 := cell_below hb1 x0
  replace x1 := cell_below hb1 x1
  replace x2 := cell_below hb1 x2
  replace x3 := cell_below hb1 x3
  clear hb1
  go_wp2_with fail
  refine (e_free _ _ hL).mono ?_
  rintro e w5 ⟨rfl, hb1⟩
  replace hL := hL.below hb1
  replace hB0 := below_then hB0 hB0.size hb1
  replace x0 := cell_below hb1 x0
  replace x1 := cell_below hb1 x1
  replace x2 := cell_below hb1 x2
  replace x3 := cell_below hb1 x3
  clear hb1
  go_wp2
  go_ret
  exact ⟨rfl, hB0⟩
end Go.Proofs.Ytmodhmcpljabcaa
