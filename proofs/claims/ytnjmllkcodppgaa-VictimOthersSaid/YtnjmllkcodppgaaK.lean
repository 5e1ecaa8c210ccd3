/- Contract of awake: the document's example holds. -/
import Derived.Test.YtnjmllkcodppgaaJ
namespace Go.Proofs.Ytnjmllkcodppgaa
open Go.RowKit
set_option linter.unusedVariables false

def exA : BI := ⟨4, 3, 1, 0⟩
def exB : BI := ⟨4, 1, 9, 0⟩
def exL : List BI := [exB, exA, zb]
theorem ex_choose : chooseR exL 4 10 (-1) = (1, 0) := by decide
theorem ex_ab : betS exA exB 4 10 = true := by decide
theorem ex_ba : betS exB exA 4 10 = false := by decide

theorem e_choose (p : Addr) (w : World) (h : Bs w (some p) exL) : Calls Try.prog 12 #[.slice (some p) 3 3, .int .i64 4, .int .u64 10, .int .i64 (-1)] w fun e w' => e = .returned (.tuple #[.int .i64 1, .int .i64 0]) ∧ Below w.heap.size w w' := by
  have k := vChoose (some p) 3 exL 4 10 (-1) w (by decide) h (by unfold exL exA exB zb u64; simp) (by unfold u64; omega)
  rw [ex_choose] at k
  exact k
theorem e_ab (w : World) : Calls Try.prog 10 #[.agg #[.int .i64 4, .int .i64 3, .int .u64 1, .int .u64 0], .agg #[.int .i64 4, .int .i64 1, .int .u64 9, .int .u64 0], .int .i64 4, .int .u64 10] w fun e w' => e = .returned (.bool true) ∧ Below w.heap.size w w' := by
  have k := vBetter exA exB 4 10 w (by unfold exA u64; simp) (by unfold exB u64; simp) (by unfold u64; omega)
  rw [ex_ab] at k
  exact k
theorem e_ba (w : World) : Calls Try.prog 10 #[.agg #[.int .i64 4, .int .i64 1, .int .u64 9, .int .u64 0], .agg #[.int .i64 4, .int .i64 3, .int .u64 1, .int .u64 0], .int .i64 4, .int .u64 10] w fun e w' => e = .returned (.bool false) ∧ Below w.heap.size w w' := by
  have k := vBetter exB exA 4 10 w (by unfold exB u64; simp) (by unfold exA u64; simp) (by unfold u64; omega)
  rw [ex_ba] at k
  exact k

set_option maxHeartbeats 2000000 in
theorem awake (w : World) : Calls Try.prog 9 #[] w fun e w' => e = .returned (.bool true) ∧ Below w.heap.size w w' := by
  go_enter Try.func9, Try.ntmps9
  go_wp2_with fail
  have hB0 : Below w.heap.size w ((w.alloc (.cells #[.int .i64 4, .int .i64 3, .int .u64 1, .int .u64 0] 24)).alloc (.cells #[.int .i64 4, .int .i64 1, .int .u64 9, .int .u64 0] 24)) := ((Below.refl _ _).alloc (Nat.le_refl _) _).alloc (by simp) _
  have xa := heap_alloc_new w (.cells #[.int .i64 4, .int .i64 3, .int .u64 1, .int .u64 0] 24)
  have xb := heap_alloc_new (w.alloc (.cells #[.int .i64 4, .int .i64 3, .int .u64 1, .int .u64 0] 24)) (.cells #[.int .i64 4, .int .i64 1, .int .u64 9, .int .u64 0] 24)
  have e1 : (w.alloc (.cells #[.int .i64 4, .int .i64 3, .int .u64 1, .int .u64 0] 24)).heap.size = w.heap.size + 1 := by simp
  rw [e1] at xb
  have ca0 := cell_alloc (cell_of_row _ _ 0 _ _ _ xa : _ = some (Value.int .i64 4)) (.cells #[.int .i64 4, .int .i64 1, .int .u64 9, .int .u64 0] 24)
  have ca1 := cell_alloc (cell_of_row _ _ 1 _ _ _ xa : _ = some (Value.int .i64 3)) (.cells #[.int .i64 4, .int .i64 1, .int .u64 9, .int .u64 0] 24)
  have ca2 := cell_alloc (cell_of_row _ _ 2 _ _ _ xa : _ = some (Value.int .u64 1)) (.cells #[.int .i64 4, .int .i64 1, .int .u64 9, .int .u64 0] 24)
  have ca3 := cell_alloc (cell_of_row _ _ 3 _ _ _ xa : _ = some (Value.int .u64 0)) (.cells #[.int .i64 4, .int .i64 1, .int .u64 9, .int .u64 0] 24)
  have cb0 : _ = some (Value.int .i64 4) := cell_of_row _ _ 0 _ _ _ xb
  have cb1 : _ = some (Value.int .i64 1) := cell_of_row _ _ 1 _ _ _ xb
  have cb2 : _ = some (Value.int .u64 9) := cell_of_row _ _ 2 _ _ _ xb
  have cb3 : _ = some (Value.int .u64 0) := cell_of_row _ _ 3 _ _ _ xb
  have hz : ((w.alloc (.cells #[.int .i64 4, .int .i64 3, .int .u64 1, .int .u64 0] 24)).alloc (.cells #[.int .i64 4, .int .i64 1, .int .u64 9, .int .u64 0] 24)).heap.size = w.heap.size + 1 + 1 := by simp
  clear xa xb e1
  generalize (w.alloc (.cells #[.int .i64 4, .int .i64 3, .int .u64 1, .int .u64 0] 24)).alloc (.cells #[.int .i64 4, .int .i64 1, .int .u64 9, .int .u64 0] 24) = W at *
  have hL : Bs (W.alloc (.cells (flat exL).toArray 24)) (some ⟨w.heap.size + 1 + 1, 0, none⟩) exL := by
    rw [← hz]
    have ho : Own (W.alloc (.cells (flat exL).toArray 24)) W.heap.size (.slice (some ⟨W.heap.size, 0, none⟩) 3 3) exL := World.ownsRow_lit W (flat exL).toArray 3 (Nat.le_refl _) (by decide) rfl
    obtain ⟨A, c, e, hb, _⟩ := ho.slice
    cases e
    exact hb
  have hB1 : Below w.heap.size w (W.alloc (.cells (flat exL).toArray 24)) := hB0.alloc hB0.size _
  replace ca0 := cell_alloc ca0 (.cells (flat exL).toArray 24)
  replace ca1 := cell_alloc ca1 (.cells (flat exL).toArray 24)
  replace ca2 := cell_alloc ca2 (.cells (flat exL).toArray 24)
  replace ca3 := cell_alloc ca3 (.cells (flat exL).toArray 24)
  replace cb0 := cell_alloc cb0 (.cells (flat exL).toArray 24)
  replace cb1 := cell_alloc cb1 (.cells (flat exL).toArray 24)
  replace cb2 := cell_alloc cb2 (.cells (flat exL).toArray 24)
  replace cb3 := cell_alloc cb3 (.cells (flat exL).toArray 24)
  have hz2 := Lib.hid hz
  clear hz hB0
  simp only [flat, exL, exA, exB, zb] at hL hB1 ca0 ca1 ca2 ca3 cb0 cb1 cb2 cb3
  generalize W.alloc _ = W2 at *
  refine (e_choose _ _ hL).mono ?_
  rintro e w1 ⟨rfl, hb1⟩
  replace ca0 := cell_below hb1 ca0
  replace ca1 := cell_below hb1 ca1
  replace ca2 := cell_below hb1 ca2
  replace ca3 := cell_below hb1 ca3
  replace cb0 := cell_below hb1 cb0
  replace cb1 := cell_below hb1 cb1
  replace cb2 := cell_below hb1 cb2
  replace cb3 := cell_below hb1 cb3
  replace hB1 := below_then hB1 hB1.size hb1
  clear hb1
  clear hL
  go_wp2_with fail
  refine (e_ab _).mono ?_
  rintro e w2 ⟨rfl, hb1⟩
  replace ca0 := cell_below hb1 ca0
  replace ca1 := cell_below hb1 ca1
  replace ca2 := cell_below hb1 ca2
  replace ca3 := cell_below hb1 ca3
  replace cb0 := cell_below hb1 cb0
  replace cb1 := cell_below hb1 cb1
  replace cb2 := cell_below hb1 cb2
  replace cb3 := cell_below hb1 cb3
  replace hB1 := below_then hB1 hB1.size hb1
  clear hb1
  go_wp2_with fail
  refine (e_ba _).mono ?_
  rintro e w3 ⟨rfl, hb1⟩
  replace ca0 := cell_below hb1 ca0
  replace ca1 := cell_below hb1 ca1
  replace ca2 := cell_below hb1 ca2
  replace ca3 := cell_below hb1 ca3
  replace cb0 := cell_below hb1 cb0
  replace cb1 := cell_below hb1 cb1
  replace cb2 := cell_below hb1 cb2
  replace cb3 := cell_below hb1 cb3
  replace hB1 := below_then hB1 hB1.size hb1
  clear hb1
  go_wp2
  go_ret
  exact ⟨rfl, hB1⟩
end Go.Proofs.Ytnjmllkcodppgaa
