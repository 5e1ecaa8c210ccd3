/- The walk of the law VictimBetter. -/
import Derived.Test.YtnjmllkcodppgaaM
import Derived.Test.YtnjmllkcodppgaaS
namespace Go.Proofs.Ytnjmllkcodppgaa
open Go.RowKit
set_option linter.unusedVariables false

set_option maxHeartbeats 4000000 in
theorem lawBetter (a b : BI) (s now : Int) (w : World) (ga : okB a) (gb : okB b) (gn : (Lit.int .u64 now).wf = true) :
    Calls Try.prog 3 #[.agg #[.int .i64 a.used, .int .i64 a.live, .int .u64 a.age, .int .u64 a.wear], .agg #[.int .i64 b.used, .int .i64 b.live, .int .u64 b.age, .int .u64 b.wear], .agg #[.int .u64 s, .int .u64 now]] w fun e w' => e = .returned (.bool true) ∧ Below w.heap.size w w' := by
  have hB0 : Below w.heap.size w (((w.alloc (.cells #[.int .i64 a.used, .int .i64 a.live, .int .u64 a.age, .int .u64 a.wear] 24)).alloc (.cells #[.int .i64 b.used, .int .i64 b.live, .int .u64 b.age, .int .u64 b.wear] 24)).alloc (.cells #[.int .u64 s, .int .u64 now] 25)) := (((Below.refl _ _).alloc (Nat.le_refl _) _).alloc (by simp) _).alloc (by simp; omega) _
  have xa := (heap_alloc_new w (.cells #[.int .i64 a.used, .int .i64 a.live, .int .u64 a.age, .int .u64 a.wear] 24))
  have xb := (heap_alloc_new (w.alloc (.cells #[.int .i64 a.used, .int .i64 a.live, .int .u64 a.age, .int .u64 a.wear] 24)) (.cells #[.int .i64 b.used, .int .i64 b.live, .int .u64 b.age, .int .u64 b.wear] 24))
  have xc := (heap_alloc_new ((w.alloc (.cells #[.int .i64 a.used, .int .i64 a.live, .int .u64 a.age, .int .u64 a.wear] 24)).alloc (.cells #[.int .i64 b.used, .int .i64 b.live, .int .u64 b.age, .int .u64 b.wear] 24)) (.cells #[.int .u64 s, .int .u64 now] 25))
  have ca : At (((w.alloc (.cells #[.int .i64 a.used, .int .i64 a.live, .int .u64 a.age, .int .u64 a.wear] 24)).alloc (.cells #[.int .i64 b.used, .int .i64 b.live, .int .u64 b.age, .int .u64 b.wear] 24)).alloc (.cells #[.int .u64 s, .int .u64 now] 25)) ⟨w.heap.size, 0, none⟩ a := ⟨cell_alloc (cell_alloc (cell_of_row _ _ 0 _ _ _ xa) _) _, cell_alloc (cell_alloc (cell_of_row _ _ 1 _ _ _ xa) _) _, cell_alloc (cell_alloc (cell_of_row _ _ 2 _ _ _ xa) _) _, cell_alloc (cell_alloc (cell_of_row _ _ 3 _ _ _ xa) _) _⟩
  have cb : At (((w.alloc (.cells #[.int .i64 a.used, .int .i64 a.live, .int .u64 a.age, .int .u64 a.wear] 24)).alloc (.cells #[.int .i64 b.used, .int .i64 b.live, .int .u64 b.age, .int .u64 b.wear] 24)).alloc (.cells #[.int .u64 s, .int .u64 now] 25)) ⟨w.heap.size + 1, 0, none⟩ b := by
    have e : w.heap.size + 1 = (w.alloc (.cells #[.int .i64 a.used, .int .i64 a.live, .int .u64 a.age, .int .u64 a.wear] 24)).heap.size := by simp
    rw [e]
    exact ⟨cell_alloc (cell_of_row _ _ 0 _ _ _ xb) _, cell_alloc (cell_of_row _ _ 1 _ _ _ xb) _, cell_alloc (cell_of_row _ _ 2 _ _ _ xb) _, cell_alloc (cell_of_row _ _ 3 _ _ _ xb) _⟩
  have cc : (((w.alloc (.cells #[.int .i64 a.used, .int .i64 a.live, .int .u64 a.age, .int .u64 a.wear] 24)).alloc (.cells #[.int .i64 b.used, .int .i64 b.live, .int .u64 b.age, .int .u64 b.wear] 24)).alloc (.cells #[.int .u64 s, .int .u64 now] 25)).cell? ⟨w.heap.size + 1 + 1, 0, none⟩ = some (.int .u64 s) ∧ (((w.alloc (.cells #[.int .i64 a.used, .int .i64 a.live, .int .u64 a.age, .int .u64 a.wear] 24)).alloc (.cells #[.int .i64 b.used, .int .i64 b.live, .int .u64 b.age, .int .u64 b.wear] 24)).alloc (.cells #[.int .u64 s, .int .u64 now] 25)).cell? ⟨w.heap.size + 1 + 1, 1, none⟩ = some (.int .u64 now) := by
    have e : w.heap.size + 1 + 1 = ((w.alloc (.cells #[.int .i64 a.used, .int .i64 a.live, .int .u64 a.age, .int .u64 a.wear] 24)).alloc (.cells #[.int .i64 b.used, .int .i64 b.live, .int .u64 b.age, .int .u64 b.wear] 24)).heap.size := by simp
    rw [e]
    exact ⟨cell_of_row _ _ 0 _ _ _ xc, cell_of_row _ _ 1 _ _ _ xc⟩
  clear xa xb xc
  obtain ⟨ca0, ca1, ca2, ca3⟩ := id ca
  obtain ⟨cb0, cb1, cb2, cb3⟩ := id cb
  obtain ⟨cc0, cc1⟩ := id cc
  have haw := Lib.hid awake
  have hv := Lib.hid (fun sz W => vBetter a b sz now W (wfu64 ga.2.2.1) (wfu64 gb.2.2.1) (wfu64 gn))
  have hr := Lib.hid (fun sz W => rBetter a b sz now W (wfu64 ga.2.2.1) (wfu64 gb.2.2.1) (wfu64 gn))
  have hS : ∀ W W' : World, (fun w' : World => w'.cell? ⟨w.heap.size, 0, none⟩ = some (.int .i64 a.used) ∧ w'.cell? ⟨w.heap.size, 1, none⟩ = some (.int .i64 a.live) ∧ w'.cell? ⟨w.heap.size, 2, none⟩ = some (.int .u64 a.age) ∧ w'.cell? ⟨w.heap.size, 3, none⟩ = some (.int .u64 a.wear) ∧ w'.cell? ⟨w.heap.size + 1, 0, none⟩ = some (.int .i64 b.used) ∧ w'.cell? ⟨w.heap.size + 1, 1, none⟩ = some (.int .i64 b.live) ∧ w'.cell? ⟨w.heap.size + 1, 2, none⟩ = some (.int .u64 b.age) ∧ w'.cell? ⟨w.heap.size + 1, 3, none⟩ = some (.int .u64 b.wear) ∧ w'.cell? ⟨w.heap.size + 1 + 1, 1, none⟩ = some (.int .u64 now) ∧ Hid (Below w.heap.size w w')) W → Below W.heap.size W W' → (fun w' : World => w'.cell? ⟨w.heap.size, 0, none⟩ = some (.int .i64 a.used) ∧ w'.cell? ⟨w.heap.size, 1, none⟩ = some (.int .i64 a.live) ∧ w'.cell? ⟨w.heap.size, 2, none⟩ = some (.int .u64 a.age) ∧ w'.cell? ⟨w.heap.size, 3, none⟩ = some (.int .u64 a.wear) ∧ w'.cell? ⟨w.heap.size + 1, 0, none⟩ = some (.int .i64 b.used) ∧ w'.cell? ⟨w.heap.size + 1, 1, none⟩ = some (.int .i64 b.live) ∧ w'.cell? ⟨w.heap.size + 1, 2, none⟩ = some (.int .u64 b.age) ∧ w'.cell? ⟨w.heap.size + 1, 3, none⟩ = some (.int .u64 b.wear) ∧ w'.cell? ⟨w.heap.size + 1 + 1, 1, none⟩ = some (.int .u64 now) ∧ Hid (Below w.heap.size w w')) W' := by
    rintro W W' ⟨k0, k1, k2, k3, k4, k5, k6, k7, k8, k9⟩ hb
    exact ⟨cell_below hb k0, cell_below hb k1, cell_below hb k2, cell_below hb k3, cell_below hb k4, cell_below hb k5, cell_below hb k6, cell_below hb k7, cell_below hb k8, below_then k9.out k9.out.size hb⟩
  replace hS := Lib.hid hS
  have hBh := Lib.hid hB0
  clear ca cb cc hB0
  go_enter Try.func3, Try.ntmps3
  go_wp2
  generalize wrap64 s = sz at *
  have hv2 := Lib.hid (fun W => hv.out sz W)
  have hr2 := Lib.hid (fun W => hr.out sz W)
  clear hv hr
  generalize betS a b sz now = r at *
  have er : (r == r) = true := by simp
  go_region_held3 (fun w' : World => w'.cell? ⟨w.heap.size, 0, none⟩ = some (.int .i64 a.used) ∧ w'.cell? ⟨w.heap.size, 1, none⟩ = some (.int .i64 a.live) ∧ w'.cell? ⟨w.heap.size, 2, none⟩ = some (.int .u64 a.age) ∧ w'.cell? ⟨w.heap.size, 3, none⟩ = some (.int .u64 a.wear) ∧ w'.cell? ⟨w.heap.size + 1, 0, none⟩ = some (.int .i64 b.used) ∧ w'.cell? ⟨w.heap.size + 1, 1, none⟩ = some (.int .i64 b.live) ∧ w'.cell? ⟨w.heap.size + 1, 2, none⟩ = some (.int .u64 b.age) ∧ w'.cell? ⟨w.heap.size + 1, 3, none⟩ = some (.int .u64 b.wear) ∧ w'.cell? ⟨w.heap.size + 1 + 1, 1, none⟩ = some (.int .u64 now) ∧ Hid (Below w.heap.size w w')) (first | exact ⟨ca0, ca1, ca2, ca3, cb0, cb1, cb2, cb3, cc1, below_drewN hBh.out 1⟩ | go_keep)
    (first | (go_at_call 9; refine (callK (S := (fun w' : World => w'.cell? ⟨w.heap.size, 0, none⟩ = some (.int .i64 a.used) ∧ w'.cell? ⟨w.heap.size, 1, none⟩ = some (.int .i64 a.live) ∧ w'.cell? ⟨w.heap.size, 2, none⟩ = some (.int .u64 a.age) ∧ w'.cell? ⟨w.heap.size, 3, none⟩ = some (.int .u64 a.wear) ∧ w'.cell? ⟨w.heap.size + 1, 0, none⟩ = some (.int .i64 b.used) ∧ w'.cell? ⟨w.heap.size + 1, 1, none⟩ = some (.int .i64 b.live) ∧ w'.cell? ⟨w.heap.size + 1, 2, none⟩ = some (.int .u64 b.age) ∧ w'.cell? ⟨w.heap.size + 1, 3, none⟩ = some (.int .u64 b.wear) ∧ w'.cell? ⟨w.heap.size + 1 + 1, 1, none⟩ = some (.int .u64 now) ∧ Hid (Below w.heap.size w w'))) hS.out (fun W _ => haw.out W) (by go_keep)).mono ?_; rintro e w' ⟨rfl, hq0, hq1, hq2, hq3, hq4, hq5, hq6, hq7, hq8, hq9⟩)
           | (go_at_call 10; refine (callK (S := (fun w' : World => w'.cell? ⟨w.heap.size, 0, none⟩ = some (.int .i64 a.used) ∧ w'.cell? ⟨w.heap.size, 1, none⟩ = some (.int .i64 a.live) ∧ w'.cell? ⟨w.heap.size, 2, none⟩ = some (.int .u64 a.age) ∧ w'.cell? ⟨w.heap.size, 3, none⟩ = some (.int .u64 a.wear) ∧ w'.cell? ⟨w.heap.size + 1, 0, none⟩ = some (.int .i64 b.used) ∧ w'.cell? ⟨w.heap.size + 1, 1, none⟩ = some (.int .i64 b.live) ∧ w'.cell? ⟨w.heap.size + 1, 2, none⟩ = some (.int .u64 b.age) ∧ w'.cell? ⟨w.heap.size + 1, 3, none⟩ = some (.int .u64 b.wear) ∧ w'.cell? ⟨w.heap.size + 1 + 1, 1, none⟩ = some (.int .u64 now) ∧ Hid (Below w.heap.size w w'))) hS.out (fun W _ => hv2.out W) (by go_keep)).mono ?_; rintro e w' ⟨rfl, hq0, hq1, hq2, hq3, hq4, hq5, hq6, hq7, hq8, hq9⟩)
           | (go_at_call 11; refine (callK (S := (fun w' : World => w'.cell? ⟨w.heap.size, 0, none⟩ = some (.int .i64 a.used) ∧ w'.cell? ⟨w.heap.size, 1, none⟩ = some (.int .i64 a.live) ∧ w'.cell? ⟨w.heap.size, 2, none⟩ = some (.int .u64 a.age) ∧ w'.cell? ⟨w.heap.size, 3, none⟩ = some (.int .u64 a.wear) ∧ w'.cell? ⟨w.heap.size + 1, 0, none⟩ = some (.int .i64 b.used) ∧ w'.cell? ⟨w.heap.size + 1, 1, none⟩ = some (.int .i64 b.live) ∧ w'.cell? ⟨w.heap.size + 1, 2, none⟩ = some (.int .u64 b.age) ∧ w'.cell? ⟨w.heap.size + 1, 3, none⟩ = some (.int .u64 b.wear) ∧ w'.cell? ⟨w.heap.size + 1 + 1, 1, none⟩ = some (.int .u64 now) ∧ Hid (Below w.heap.size w w'))) hS.out (fun W _ => hr2.out W) (by go_keep)).mono ?_; rintro e w' ⟨rfl, hq0, hq1, hq2, hq3, hq4, hq5, hq6, hq7, hq8, hq9⟩))
  all_goals go_wp2
  all_goals go_ret
  all_goals exact ⟨rfl, hq9.out⟩
end Go.Proofs.Ytnjmllkcodppgaa
