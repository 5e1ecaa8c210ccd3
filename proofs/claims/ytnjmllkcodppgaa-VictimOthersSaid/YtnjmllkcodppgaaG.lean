/- Contracts of less and of tegularef18.Better. -/
import Derived.Test.YtnjmllkcodppgaaF
namespace Go.Proofs.Ytnjmllkcodppgaa
open Go.RowKit
set_option linter.unusedVariables false

set_option maxHeartbeats 4000000 in
theorem rLess (x y : Int) (a b : BI) (size now : Int) (w : World) (ha : fitsS a = true) (hb : fitsS b = true) (hs : sizeS size = true) (ga : u64 a.age) (gb : u64 b.age) (gn : u64 now) (hx : 1 ≤ x ∧ x ≤ 1048576) (hy : 1 ≤ y ∧ y ≤ 1048576) :
    Calls Try.prog 22 #[.int .i64 x, .agg #[.int .i64 a.used, .int .i64 a.live, .int .u64 a.age, .int .u64 a.wear], .int .i64 y, .agg #[.int .i64 b.used, .int .i64 b.live, .int .u64 b.age, .int .u64 b.wear], .int .i64 size, .int .u64 now] w fun e w' => e = .returned (.bool (decide (x * (size + b.live) * (ageS a now + 1) < y * (size + a.live) * (ageS b now + 1)))) ∧ Below w.heap.size w w' := by
  have fa := (fits_iff a).1 ha
  have fb := (fits_iff b).1 hb
  have fs := (size_iff size).1 hs
  have ea := age_range a now
  have eb := age_range b now
  have hB0 : Below w.heap.size w ((w.alloc (.cells #[.int .i64 a.used, .int .i64 a.live, .int .u64 a.age, .int .u64 a.wear] 24)).alloc (.cells #[.int .i64 b.used, .int .i64 b.live, .int .u64 b.age, .int .u64 b.wear] 24)) := ((Below.refl _ _).alloc (Nat.le_refl _) _).alloc (by simp) _
  have xa := (heap_alloc_new w (.cells #[.int .i64 a.used, .int .i64 a.live, .int .u64 a.age, .int .u64 a.wear] 24))
  have xb := (heap_alloc_new (w.alloc (.cells #[.int .i64 a.used, .int .i64 a.live, .int .u64 a.age, .int .u64 a.wear] 24)) (.cells #[.int .i64 b.used, .int .i64 b.live, .int .u64 b.age, .int .u64 b.wear] 24))
  have ca : At ((w.alloc (.cells #[.int .i64 a.used, .int .i64 a.live, .int .u64 a.age, .int .u64 a.wear] 24)).alloc (.cells #[.int .i64 b.used, .int .i64 b.live, .int .u64 b.age, .int .u64 b.wear] 24)) ⟨w.heap.size, 0, none⟩ a := ⟨cell_alloc (cell_of_row _ _ 0 _ _ _ xa) _, cell_alloc (cell_of_row _ _ 1 _ _ _ xa) _, cell_alloc (cell_of_row _ _ 2 _ _ _ xa) _, cell_alloc (cell_of_row _ _ 3 _ _ _ xa) _⟩
  have cb : At ((w.alloc (.cells #[.int .i64 a.used, .int .i64 a.live, .int .u64 a.age, .int .u64 a.wear] 24)).alloc (.cells #[.int .i64 b.used, .int .i64 b.live, .int .u64 b.age, .int .u64 b.wear] 24)) ⟨w.heap.size + 1, 0, none⟩ b := by
    have e : w.heap.size + 1 = (w.alloc (.cells #[.int .i64 a.used, .int .i64 a.live, .int .u64 a.age, .int .u64 a.wear] 24)).heap.size := by simp
    rw [e]
    exact ⟨cell_of_row _ _ 0 _ _ _ xb, cell_of_row _ _ 1 _ _ _ xb, cell_of_row _ _ 2 _ _ _ xb, cell_of_row _ _ 3 _ _ _ xb⟩
  clear xa xb
  obtain ⟨ca0, ca1, ca2, ca3⟩ := id ca
  obtain ⟨cb0, cb1, cb2, cb3⟩ := id cb
  have HL := lex_div (x * (size + b.live) * (ageS a now + 1)) (y * (size + a.live) * (ageS b now + 1)) 1048576 (by omega)
  have hpa := Lib.hid (fun W => rProduct x (size + b.live) (ageS a now + 1) W (by omega) (by omega) (by omega))
  have hpb := Lib.hid (fun W => rProduct y (size + a.live) (ageS b now + 1) W (by omega) (by omega) (by omega))
  have haa := Lib.hid (fun W => refAge a now W ga gn)
  have hab := Lib.hid (fun W => refAge b now W gb gn)
  have hS : ∀ W W' : World, (fun w' : World => w'.cell? ⟨w.heap.size, 0, none⟩ = some (.int .i64 a.used) ∧ w'.cell? ⟨w.heap.size, 1, none⟩ = some (.int .i64 a.live) ∧ w'.cell? ⟨w.heap.size, 2, none⟩ = some (.int .u64 a.age) ∧ w'.cell? ⟨w.heap.size, 3, none⟩ = some (.int .u64 a.wear) ∧ w'.cell? ⟨w.heap.size + 1, 0, none⟩ = some (.int .i64 b.used) ∧ w'.cell? ⟨w.heap.size + 1, 1, none⟩ = some (.int .i64 b.live) ∧ w'.cell? ⟨w.heap.size + 1, 2, none⟩ = some (.int .u64 b.age) ∧ w'.cell? ⟨w.heap.size + 1, 3, none⟩ = some (.int .u64 b.wear) ∧ Hid (Below w.heap.size w w')) W → Below W.heap.size W W' → (fun w' : World => w'.cell? ⟨w.heap.size, 0, none⟩ = some (.int .i64 a.used) ∧ w'.cell? ⟨w.heap.size, 1, none⟩ = some (.int .i64 a.live) ∧ w'.cell? ⟨w.heap.size, 2, none⟩ = some (.int .u64 a.age) ∧ w'.cell? ⟨w.heap.size, 3, none⟩ = some (.int .u64 a.wear) ∧ w'.cell? ⟨w.heap.size + 1, 0, none⟩ = some (.int .i64 b.used) ∧ w'.cell? ⟨w.heap.size + 1, 1, none⟩ = some (.int .i64 b.live) ∧ w'.cell? ⟨w.heap.size + 1, 2, none⟩ = some (.int .u64 b.age) ∧ w'.cell? ⟨w.heap.size + 1, 3, none⟩ = some (.int .u64 b.wear) ∧ Hid (Below w.heap.size w w')) W' := by
    rintro W W' ⟨k0, k1, k2, k3, k4, k5, k6, k7, k8⟩ hb
    exact ⟨cell_below hb k0, cell_below hb k1, cell_below hb k2, cell_below hb k3, cell_below hb k4, cell_below hb k5, cell_below hb k6, cell_below hb k7, below_then k8.out k8.out.size hb⟩
  replace hS := Lib.hid hS
  generalize decide (x * (size + b.live) * (ageS a now + 1) < y * (size + a.live) * (ageS b now + 1)) = r at *
  generalize x * (size + b.live) * (ageS a now + 1) / 1048576 = h at *
  generalize x * (size + b.live) * (ageS a now + 1) % 1048576 = l at *
  generalize y * (size + a.live) * (ageS b now + 1) / 1048576 = k at *
  generalize y * (size + a.live) * (ageS b now + 1) % 1048576 = m at *
  generalize ageS a now = aga at *
  generalize ageS b now = agb at *
  replace HL := Lib.hid HL
  obtain ⟨a0, a1⟩ := fa
  obtain ⟨b0, b1⟩ := fb
  obtain ⟨s0, s1⟩ := fs
  obtain ⟨x0, x1⟩ := hx
  obtain ⟨y0, y1⟩ := hy
  obtain ⟨p0, p1⟩ := ea
  obtain ⟨q0, q1⟩ := eb
  have hBh := Lib.hid hB0
  clear ca cb hB0
  go_enter Try.func22, Try.ntmps22
  have z1 : IntKind.u64.wrap x = x := IntWalk.u64_in _ (by omega)
  have z2 : IntKind.i64.wrap (size + b.live) = size + b.live := IntWalk.i64_in _ (by omega)
  have z3 : IntKind.u64.wrap (size + b.live) = size + b.live := IntWalk.u64_in _ (by omega)
  have z4 : IntKind.u64.wrap (aga + 1) = aga + 1 := IntWalk.u64_in _ (by omega)
  go_wp2
  go_region_held3 (fun w' : World => w'.cell? ⟨w.heap.size, 0, none⟩ = some (.int .i64 a.used) ∧ w'.cell? ⟨w.heap.size, 1, none⟩ = some (.int .i64 a.live) ∧ w'.cell? ⟨w.heap.size, 2, none⟩ = some (.int .u64 a.age) ∧ w'.cell? ⟨w.heap.size, 3, none⟩ = some (.int .u64 a.wear) ∧ w'.cell? ⟨w.heap.size + 1, 0, none⟩ = some (.int .i64 b.used) ∧ w'.cell? ⟨w.heap.size + 1, 1, none⟩ = some (.int .i64 b.live) ∧ w'.cell? ⟨w.heap.size + 1, 2, none⟩ = some (.int .u64 b.age) ∧ w'.cell? ⟨w.heap.size + 1, 3, none⟩ = some (.int .u64 b.wear) ∧ Hid (Below w.heap.size w w')) (first | exact ⟨ca0, ca1, ca2, ca3, cb0, cb1, cb2, cb3, below_drewN hBh.out 1⟩ | go_keep)
    (first | (go_at_call 26; refine (callK (S := (fun w' : World => w'.cell? ⟨w.heap.size, 0, none⟩ = some (.int .i64 a.used) ∧ w'.cell? ⟨w.heap.size, 1, none⟩ = some (.int .i64 a.live) ∧ w'.cell? ⟨w.heap.size, 2, none⟩ = some (.int .u64 a.age) ∧ w'.cell? ⟨w.heap.size, 3, none⟩ = some (.int .u64 a.wear) ∧ w'.cell? ⟨w.heap.size + 1, 0, none⟩ = some (.int .i64 b.used) ∧ w'.cell? ⟨w.heap.size + 1, 1, none⟩ = some (.int .i64 b.live) ∧ w'.cell? ⟨w.heap.size + 1, 2, none⟩ = some (.int .u64 b.age) ∧ w'.cell? ⟨w.heap.size + 1, 3, none⟩ = some (.int .u64 b.wear) ∧ Hid (Below w.heap.size w w'))) hS.out (fun W _ => haa.out W) (by go_keep)).mono ?_; rintro e w' ⟨rfl, hq0, hq1, hq2, hq3, hq4, hq5, hq6, hq7, hq8⟩)
           | (go_at_call 25; refine (hpa.out _).mono ?_; rintro e w' ⟨rfl, rfl⟩))
  clear z1 z2 z3 z4 ca0 ca1 ca2 ca3 cb0 cb1 cb2 cb3
  have z1 : IntKind.u64.wrap y = y := IntWalk.u64_in _ (by omega)
  have z2 : IntKind.i64.wrap (size + a.live) = size + a.live := IntWalk.i64_in _ (by omega)
  have z3 : IntKind.u64.wrap (size + a.live) = size + a.live := IntWalk.u64_in _ (by omega)
  have z4 : IntKind.u64.wrap (agb + 1) = agb + 1 := IntWalk.u64_in _ (by omega)
  go_wp2
  go_region_held3 (fun w' : World => w'.cell? ⟨w.heap.size, 0, none⟩ = some (.int .i64 a.used) ∧ w'.cell? ⟨w.heap.size, 1, none⟩ = some (.int .i64 a.live) ∧ w'.cell? ⟨w.heap.size, 2, none⟩ = some (.int .u64 a.age) ∧ w'.cell? ⟨w.heap.size, 3, none⟩ = some (.int .u64 a.wear) ∧ w'.cell? ⟨w.heap.size + 1, 0, none⟩ = some (.int .i64 b.used) ∧ w'.cell? ⟨w.heap.size + 1, 1, none⟩ = some (.int .i64 b.live) ∧ w'.cell? ⟨w.heap.size + 1, 2, none⟩ = some (.int .u64 b.age) ∧ w'.cell? ⟨w.heap.size + 1, 3, none⟩ = some (.int .u64 b.wear) ∧ Hid (Below w.heap.size w w')) (first | exact ⟨hq0, hq1, hq2, hq3, hq4, hq5, hq6, hq7, below_drewN hq8.out 1⟩ | go_keep)
    (first | (go_at_call 26; refine (callK (S := (fun w' : World => w'.cell? ⟨w.heap.size, 0, none⟩ = some (.int .i64 a.used) ∧ w'.cell? ⟨w.heap.size, 1, none⟩ = some (.int .i64 a.live) ∧ w'.cell? ⟨w.heap.size, 2, none⟩ = some (.int .u64 a.age) ∧ w'.cell? ⟨w.heap.size, 3, none⟩ = some (.int .u64 a.wear) ∧ w'.cell? ⟨w.heap.size + 1, 0, none⟩ = some (.int .i64 b.used) ∧ w'.cell? ⟨w.heap.size + 1, 1, none⟩ = some (.int .i64 b.live) ∧ w'.cell? ⟨w.heap.size + 1, 2, none⟩ = some (.int .u64 b.age) ∧ w'.cell? ⟨w.heap.size + 1, 3, none⟩ = some (.int .u64 b.wear) ∧ Hid (Below w.heap.size w w'))) hS.out (fun W _ => hab.out W) (by go_keep)).mono ?_; rintro e w' ⟨rfl, hp0, hp1, hp2, hp3, hp4, hp5, hp6, hp7, hp8⟩)
           | (go_at_call 25; refine (hpb.out _).mono ?_; rintro e w' ⟨rfl, rfl⟩))
  clear z1 z2 z3 z4
  by_cases q1 : h < k
  · have d1 : decide (h < k) = true := decide_eq_true q1
    clear q1
    have hv := Lib.hid (show lexB h l k m = true by unfold lexB; simp [d1])
    go_wp2
    go_ret
    exact ⟨by rw [← HL.out, hv.out]; rfl, hp8.out⟩
  · have d1 : decide (h < k) = false := decide_eq_false q1
    clear q1
    by_cases q2 : h = k
    · have d2 : (h == k) = true := beq_iff_eq.2 q2
      clear q2
      by_cases q3 : l < m
      · have d3 : decide (l < m) = true := decide_eq_true q3
        clear q3
        have hv := Lib.hid (show lexB h l k m = true by unfold lexB; simp [d1, d2, d3])
        go_wp2
        go_ret
        exact ⟨by rw [← HL.out, hv.out]; rfl, hp8.out⟩
      · have d3 : decide (l < m) = false := decide_eq_false q3
        clear q3
        have hv := Lib.hid (show lexB h l k m = false by unfold lexB; simp [d1, d2, d3])
        go_wp2
        go_ret
        exact ⟨by rw [← HL.out, hv.out]; rfl, hp8.out⟩
    · have d2 : (h == k) = false := beq_eq_false_iff_ne.2 q2
      clear q2
      have hv := Lib.hid (show lexB h l k m = false by unfold lexB; simp [d1, d2])
      go_wp2
      go_ret
      exact ⟨by rw [← HL.out, hv.out]; rfl, hp8.out⟩

section
variable {a b : BI} {size now : Int}
theorem bet_pp (ha : fitsS a = true) (hb : fitsS b = true) (hs : sizeS size = true) : betS a b size now = decide ((size - b.live) * (size + a.live) * (ageS b now + 1) < (size - a.live) * (size + b.live) * (ageS a now + 1)) := by
  rw [betS_ok ha hb hs]
  unfold num den
  rw [Int.mul_right_comm (size - b.live), Int.mul_right_comm (size - a.live)]
theorem bet_nn (ha : fitsS a = true) (hb : fitsS b = true) (hs : sizeS size = true) : betS a b size now = decide (-(size - a.live) * (size + b.live) * (ageS a now + 1) < -(size - b.live) * (size + a.live) * (ageS b now + 1)) := by
  rw [bet_pp ha hb hs]
  simp only [Int.neg_mul]
  congr 1
  apply propext
  omega
theorem bet_true (ha : fitsS a = true) (hb : fitsS b = true) (hs : sizeS size = true) (h : (0 < size - a.live ∧ size - b.live ≤ 0) ∨ (size - a.live = 0 ∧ size - b.live < 0)) : betS a b size now = true := by
  have da := den_pos ha hs
  have db := den_pos hb hs
  rw [betS_ok ha hb hs]
  refine decide_eq_true ?_
  rcases h with ⟨h1, h2⟩ | ⟨h1, h2⟩
  · have n1 := num_gt (b := a) (size := size) (now := now) (by omega)
    have k2 : 0 < num a size now * den b size := Int.mul_pos n1 (by omega)
    by_cases e : size = b.live
    · rw [num_zero e.symm, Int.zero_mul]; exact k2
    · have n2 := num_neg (b := b) (size := size) (now := now) (by omega)
      have k1 : num b size now * den a size < 0 := Int.mul_neg_of_neg_of_pos n2 (by omega)
      omega
  · have n2 := num_neg (b := b) (size := size) (now := now) (by omega)
    have k1 : num b size now * den a size < 0 := Int.mul_neg_of_neg_of_pos n2 (by omega)
    rw [num_zero (by omega : a.live = size), Int.zero_mul]
    exact k1
theorem bet_false (ha : fitsS a = true) (hb : fitsS b = true) (hs : sizeS size = true) (h : size - a.live ≤ 0 ∧ 0 ≤ size - b.live) : betS a b size now = false := by
  have da := den_pos ha hs
  have db := den_pos hb hs
  rw [betS_ok ha hb hs]
  refine decide_eq_false ?_
  have n2 := num_pos (b := b) (size := size) (now := now) (by omega)
  have k1 : 0 ≤ num b size now * den a size := Int.mul_nonneg n2 (by omega)
  by_cases e : a.live = size
  · rw [num_zero e, Int.zero_mul]; omega
  · have n1 := num_neg (b := a) (size := size) (now := now) (by omega)
    have k2 : num a size now * den b size < 0 := Int.mul_neg_of_neg_of_pos n1 (by omega)
    omega
end

theorem sPos (n : Int) (w : World) (h : 0 < n) : Calls Try.prog 21 #[.int .i64 n] w fun e w' => e = .returned (.int .i64 1) ∧ w' = w := by
  have := rSign n w
  rwa [if_pos h] at this
theorem sNeg (n : Int) (w : World) (h : n < 0) : Calls Try.prog 21 #[.int .i64 n] w fun e w' => e = .returned (.int .i64 (-1)) ∧ w' = w := by
  have := rSign n w
  rwa [if_neg (by omega), if_pos h] at this
theorem sZero (n : Int) (w : World) (h : n = 0) : Calls Try.prog 21 #[.int .i64 n] w fun e w' => e = .returned (.int .i64 0) ∧ w' = w := by
  have := rSign n w
  rwa [if_neg (by omega), if_neg (by omega)] at this

set_option maxHeartbeats 8000000 in
theorem rBetter (a b : BI) (size now : Int) (w : World) (ga : u64 a.age) (gb : u64 b.age) (gn : u64 now) :
    Calls Try.prog 11 #[.agg #[.int .i64 a.used, .int .i64 a.live, .int .u64 a.age, .int .u64 a.wear], .agg #[.int .i64 b.used, .int .i64 b.live, .int .u64 b.age, .int .u64 b.wear], .int .i64 size, .int .u64 now] w fun e w' => e = .returned (.bool (betS a b size now)) ∧ Below w.heap.size w w' := by
  have hB0 : Below w.heap.size w ((w.alloc (.cells #[.int .i64 a.used, .int .i64 a.live, .int .u64 a.age, .int .u64 a.wear] 24)).alloc (.cells #[.int .i64 b.used, .int .i64 b.live, .int .u64 b.age, .int .u64 b.wear] 24)) := ((Below.refl _ _).alloc (Nat.le_refl _) _).alloc (by simp) _
  have xa := (heap_alloc_new w (.cells #[.int .i64 a.used, .int .i64 a.live, .int .u64 a.age, .int .u64 a.wear] 24))
  have xb := (heap_alloc_new (w.alloc (.cells #[.int .i64 a.used, .int .i64 a.live, .int .u64 a.age, .int .u64 a.wear] 24)) (.cells #[.int .i64 b.used, .int .i64 b.live, .int .u64 b.age, .int .u64 b.wear] 24))
  have ca : At ((w.alloc (.cells #[.int .i64 a.used, .int .i64 a.live, .int .u64 a.age, .int .u64 a.wear] 24)).alloc (.cells #[.int .i64 b.used, .int .i64 b.live, .int .u64 b.age, .int .u64 b.wear] 24)) ⟨w.heap.size, 0, none⟩ a := ⟨cell_alloc (cell_of_row _ _ 0 _ _ _ xa) _, cell_alloc (cell_of_row _ _ 1 _ _ _ xa) _, cell_alloc (cell_of_row _ _ 2 _ _ _ xa) _, cell_alloc (cell_of_row _ _ 3 _ _ _ xa) _⟩
  have cb : At ((w.alloc (.cells #[.int .i64 a.used, .int .i64 a.live, .int .u64 a.age, .int .u64 a.wear] 24)).alloc (.cells #[.int .i64 b.used, .int .i64 b.live, .int .u64 b.age, .int .u64 b.wear] 24)) ⟨w.heap.size + 1, 0, none⟩ b := by
    have e : w.heap.size + 1 = (w.alloc (.cells #[.int .i64 a.used, .int .i64 a.live, .int .u64 a.age, .int .u64 a.wear] 24)).heap.size := by simp
    rw [e]
    exact ⟨cell_of_row _ _ 0 _ _ _ xb, cell_of_row _ _ 1 _ _ _ xb, cell_of_row _ _ 2 _ _ _ xb, cell_of_row _ _ 3 _ _ _ xb⟩
  clear xa xb
  obtain ⟨ca0, ca1, ca2, ca3⟩ := id ca
  obtain ⟨cb0, cb1, cb2, cb3⟩ := id cb
  cases ha : (fitsS a && sizeS size) with
  | false =>
    have hv := Lib.hid (show betS a b size now = false by
      unfold betS
      rcases Bool.and_eq_false_iff.1 ha with e | e
      · rw [e]; rfl
      · rw [e, Bool.and_false]; rfl)
    replace ha := Lib.hid ha
    go_enter Try.func11, Try.ntmps11
    go_wp2_with fail
    refine (rFits a size _).mono ?_
    rintro e w1 ⟨rfl, hb1⟩
    clear ca0 ca1 ca2 ca3 cb0 cb1 cb2 cb3
    replace ca := ca.below hb1
    replace cb := cb.below hb1
    replace hB0 := below_then hB0 hB0.size hb1
    clear hb1
    obtain ⟨ca0, ca1, ca2, ca3⟩ := id ca
    obtain ⟨cb0, cb1, cb2, cb3⟩ := id cb
    rw [ha.out]
    go_wp2
    go_ret
    exact ⟨by rw [hv.out]; rfl, hB0⟩
  | true =>
    cases hb : (fitsS b && sizeS size) with
    | false =>
      have hv := Lib.hid (show betS a b size now = false by
        unfold betS
        rcases Bool.and_eq_false_iff.1 hb with e | e
        · rw [e, Bool.and_false]; rfl
        · rw [e, Bool.and_false]; rfl)
      replace ha := Lib.hid ha
      replace hb := Lib.hid hb
      go_enter Try.func11, Try.ntmps11
      go_wp2_with fail
      refine (rFits a size _).mono ?_
      rintro e w1 ⟨rfl, hb1⟩
      clear ca0 ca1 ca2 ca3 cb0 cb1 cb2 cb3
      replace ca := ca.below hb1
      replace cb := cb.below hb1
      replace hB0 := below_then hB0 hB0.size hb1
      clear hb1
      obtain ⟨ca0, ca1, ca2, ca3⟩ := id ca
      obtain ⟨cb0, cb1, cb2, cb3⟩ := id cb
      rw [ha.out]
      go_wp2_with fail
      refine (rFits b size _).mono ?_
      rintro e w2 ⟨rfl, hb1⟩
      clear ca0 ca1 ca2 ca3 cb0 cb1 cb2 cb3
      replace ca := ca.below hb1
      replace cb := cb.below hb1
      replace hB0 := below_then hB0 hB0.size hb1
      clear hb1
      obtain ⟨ca0, ca1, ca2, ca3⟩ := id ca
      obtain ⟨cb0, cb1, cb2, cb3⟩ := id cb
      rw [hb.out]
      go_wp2
      go_ret
      exact ⟨by rw [hv.out]; rfl, hB0⟩
    | true =>
      obtain ⟨fa, hs⟩ := Bool.and_eq_true_iff.1 ha
      obtain ⟨fb, _⟩ := Bool.and_eq_true_iff.1 hb
      have ra := (fits_iff a).1 fa
      have rb := (fits_iff b).1 fb
      have rs := (size_iff size).1 hs
      replace ha := Lib.hid ha
      replace hb := Lib.hid hb
      obtain ⟨x, hx⟩ : ∃ x, x = size - a.live := ⟨_, rfl⟩
      obtain ⟨y, hy⟩ : ∃ y, y = size - b.live := ⟨_, rfl⟩
      have hxr : -1048576 ≤ x ∧ x ≤ 1048576 := by omega
      have hyr : -1048576 ≤ y ∧ y ≤ 1048576 := by omega
      have t1 : 0 < x ∨ x = 0 ∨ x < 0 := by omega
      have t2 : 0 < y ∨ y = 0 ∨ y < 0 := by omega
      rcases t1 with hi | hi | hi
      · rcases t2 with hj | hj | hj
        · have hv := Lib.hid (bet_pp (now := now) fa fb hs)
          have hc := Lib.hid (fun W => rLess y x b a size now W fb fa hs gb ga gn (by omega) (by omega))
          rw [← hx, ← hy] at hv
          generalize decide (y * (size + a.live) * (ageS b now + 1) < x * (size + b.live) * (ageS a now + 1)) = r at *
          have wx : wrap64 (size - a.live) = size - a.live := by unfold wrap64; omega
          have wy : wrap64 (size - b.live) = size - b.live := by unfold wrap64; omega
          have hxh := Lib.hid hx
          have hyh := Lib.hid hy
          clear hx hy fa fb hs
          go_enter Try.func11, Try.ntmps11
          go_wp2_with fail
          refine (rFits a size _).mono ?_
          rintro e w1 ⟨rfl, hb1⟩
          clear ca0 ca1 ca2 ca3 cb0 cb1 cb2 cb3
          replace ca := ca.below hb1
          replace cb := cb.below hb1
          replace hB0 := below_then hB0 hB0.size hb1
          clear hb1
          obtain ⟨ca0, ca1, ca2, ca3⟩ := id ca
          obtain ⟨cb0, cb1, cb2, cb3⟩ := id cb
          rw [ha.out]
          go_wp2_with fail
          refine (rFits b size _).mono ?_
          rintro e w2 ⟨rfl, hb1⟩
          clear ca0 ca1 ca2 ca3 cb0 cb1 cb2 cb3
          replace ca := ca.below hb1
          replace cb := cb.below hb1
          replace hB0 := below_then hB0 hB0.size hb1
          clear hb1
          obtain ⟨ca0, ca1, ca2, ca3⟩ := id ca
          obtain ⟨cb0, cb1, cb2, cb3⟩ := id cb
          rw [hb.out]
          go_wp2
          go_quiet (fail)
          clear wx wy
          rw [← hxh.out, ← hyh.out]
          replace hB0 := below_drewN hB0 nq
          replace ca := ca.below (below_drewN (Below.refl _ _) nq)
          replace cb := cb.below (below_drewN (Below.refl _ _) nq)
          generalize World.drewN w2 nq = W2 at *
          clear ca0 ca1 ca2 ca3 cb0 cb1 cb2 cb3
          obtain ⟨ca0, ca1, ca2, ca3⟩ := id ca
          obtain ⟨cb0, cb1, cb2, cb3⟩ := id cb
          clear hxh hyh
          go_wp2_with fail
          refine (hc.out _).mono ?_
          rintro e w3 ⟨rfl, hb1⟩
          replace hB0 := below_then hB0 hB0.size hb1
          go_wp2
          go_ret
          exact ⟨by rw [hv.out]; rfl, hB0⟩
        · have hv := Lib.hid (bet_true (now := now) fa fb hs (by omega))
          have wx : wrap64 (size - a.live) = size - a.live := by unfold wrap64; omega
          have wy : wrap64 (size - b.live) = size - b.live := by unfold wrap64; omega
          have hxh := Lib.hid hx
          have hyh := Lib.hid hy
          clear hx hy fa fb hs
          go_enter Try.func11, Try.ntmps11
          go_wp2_with fail
          refine (rFits a size _).mono ?_
          rintro e w1 ⟨rfl, hb1⟩
          clear ca0 ca1 ca2 ca3 cb0 cb1 cb2 cb3
          replace ca := ca.below hb1
          replace cb := cb.below hb1
          replace hB0 := below_then hB0 hB0.size hb1
          clear hb1
          obtain ⟨ca0, ca1, ca2, ca3⟩ := id ca
          obtain ⟨cb0, cb1, cb2, cb3⟩ := id cb
          rw [ha.out]
          go_wp2_with fail
          refine (rFits b size _).mono ?_
          rintro e w2 ⟨rfl, hb1⟩
          clear ca0 ca1 ca2 ca3 cb0 cb1 cb2 cb3
          replace ca := ca.below hb1
          replace cb := cb.below hb1
          replace hB0 := below_then hB0 hB0.size hb1
          clear hb1
          obtain ⟨ca0, ca1, ca2, ca3⟩ := id ca
          obtain ⟨cb0, cb1, cb2, cb3⟩ := id cb
          rw [hb.out]
          go_wp2
          go_quiet (fail)
          clear wx wy
          rw [← hxh.out, ← hyh.out]
          replace hB0 := below_drewN hB0 nq
          replace ca := ca.below (below_drewN (Below.refl _ _) nq)
          replace cb := cb.below (below_drewN (Below.refl _ _) nq)
          generalize World.drewN w2 nq = W2 at *
          clear ca0 ca1 ca2 ca3 cb0 cb1 cb2 cb3
          obtain ⟨ca0, ca1, ca2, ca3⟩ := id ca
          obtain ⟨cb0, cb1, cb2, cb3⟩ := id cb
          clear hxh hyh
          subst hj
          have s1 := Lib.hid (fun W => sPos x W hi)
          have s2 := Lib.hid (fun W => sZero 0 W rfl)
          go_wp2_with fail
          refine (s1.out _).mono ?_
          rintro e w3 ⟨rfl, rfl⟩
          go_wp2_with fail
          refine (s2.out _).mono ?_
          rintro e w4 ⟨rfl, rfl⟩
          go_wp2
          go_ret
          exact ⟨by rw [hv.out]; rfl, hB0⟩
        · have hv := Lib.hid (bet_true (now := now) fa fb hs (by omega))
          have wx : wrap64 (size - a.live) = size - a.live := by unfold wrap64; omega
          have wy : wrap64 (size - b.live) = size - b.live := by unfold wrap64; omega
          have hxh := Lib.hid hx
          have hyh := Lib.hid hy
          clear hx hy fa fb hs
          go_enter Try.func11, Try.ntmps11
          go_wp2_with fail
          refine (rFits a size _).mono ?_
          rintro e w1 ⟨rfl, hb1⟩
          clear ca0 ca1 ca2 ca3 cb0 cb1 cb2 cb3
          replace ca := ca.below hb1
          replace cb := cb.below hb1
          replace hB0 := below_then hB0 hB0.size hb1
          clear hb1
          obtain ⟨ca0, ca1, ca2, ca3⟩ := id ca
          obtain ⟨cb0, cb1, cb2, cb3⟩ := id cb
          rw [ha.out]
          go_wp2_with fail
          refine (rFits b size _).mono ?_
          rintro e w2 ⟨rfl, hb1⟩
          clear ca0 ca1 ca2 ca3 cb0 cb1 cb2 cb3
          replace ca := ca.below hb1
          replace cb := cb.below hb1
          replace hB0 := below_then hB0 hB0.size hb1
          clear hb1
          obtain ⟨ca0, ca1, ca2, ca3⟩ := id ca
          obtain ⟨cb0, cb1, cb2, cb3⟩ := id cb
          rw [hb.out]
          go_wp2
          go_quiet (fail)
          clear wx wy
          rw [← hxh.out, ← hyh.out]
          replace hB0 := below_drewN hB0 nq
          replace ca := ca.below (below_drewN (Below.refl _ _) nq)
          replace cb := cb.below (below_drewN (Below.refl _ _) nq)
          generalize World.drewN w2 nq = W2 at *
          clear ca0 ca1 ca2 ca3 cb0 cb1 cb2 cb3
          obtain ⟨ca0, ca1, ca2, ca3⟩ := id ca
          obtain ⟨cb0, cb1, cb2, cb3⟩ := id cb
          clear hxh hyh
          have s1 := Lib.hid (fun W => sPos x W hi)
          have s2 := Lib.hid (fun W => sNeg y W hj)
          go_wp2_with fail
          refine (s1.out _).mono ?_
          rintro e w3 ⟨rfl, rfl⟩
          go_wp2_with fail
          refine (s2.out _).mono ?_
          rintro e w4 ⟨rfl, rfl⟩
          go_wp2
          go_ret
          exact ⟨by rw [hv.out]; rfl, hB0⟩
      · rcases t2 with hj | hj | hj
        · have hv := Lib.hid (bet_false (now := now) fa fb hs (by omega))
          have wx : wrap64 (size - a.live) = size - a.live := by unfold wrap64; omega
          have wy : wrap64 (size - b.live) = size - b.live := by unfold wrap64; omega
          have hxh := Lib.hid hx
          have hyh := Lib.hid hy
          clear hx hy fa fb hs
          go_enter Try.func11, Try.ntmps11
          go_wp2_with fail
          refine (rFits a size _).mono ?_
          rintro e w1 ⟨rfl, hb1⟩
          clear ca0 ca1 ca2 ca3 cb0 cb1 cb2 cb3
          replace ca := ca.below hb1
          replace cb := cb.below hb1
          replace hB0 := below_then hB0 hB0.size hb1
          clear hb1
          obtain ⟨ca0, ca1, ca2, ca3⟩ := id ca
          obtain ⟨cb0, cb1, cb2, cb3⟩ := id cb
          rw [ha.out]
          go_wp2_with fail
          refine (rFits b size _).mono ?_
          rintro e w2 ⟨rfl, hb1⟩
          clear ca0 ca1 ca2 ca3 cb0 cb1 cb2 cb3
          replace ca := ca.below hb1
          replace cb := cb.below hb1
          replace hB0 := below_then hB0 hB0.size hb1
          clear hb1
          obtain ⟨ca0, ca1, ca2, ca3⟩ := id ca
          obtain ⟨cb0, cb1, cb2, cb3⟩ := id cb
          rw [hb.out]
          go_wp2
          go_quiet (fail)
          clear wx wy
          rw [← hxh.out, ← hyh.out]
          replace hB0 := below_drewN hB0 nq
          replace ca := ca.below (below_drewN (Below.refl _ _) nq)
          replace cb := cb.below (below_drewN (Below.refl _ _) nq)
          generalize World.drewN w2 nq = W2 at *
          clear ca0 ca1 ca2 ca3 cb0 cb1 cb2 cb3
          obtain ⟨ca0, ca1, ca2, ca3⟩ := id ca
          obtain ⟨cb0, cb1, cb2, cb3⟩ := id cb
          clear hxh hyh
          subst hi
          have s1 := Lib.hid (fun W => sZero 0 W rfl)
          have s2 := Lib.hid (fun W => sPos y W hj)
          go_wp2_with fail
          refine (s1.out _).mono ?_
          rintro e w3 ⟨rfl, rfl⟩
          go_wp2_with fail
          refine (s2.out _).mono ?_
          rintro e w4 ⟨rfl, rfl⟩
          go_wp2
          go_ret
          exact ⟨by rw [hv.out]; rfl, hB0⟩
        · have hv := Lib.hid (bet_false (now := now) fa fb hs (by omega))
          have wx : wrap64 (size - a.live) = size - a.live := by unfold wrap64; omega
          have wy : wrap64 (size - b.live) = size - b.live := by unfold wrap64; omega
          have hxh := Lib.hid hx
          have hyh := Lib.hid hy
          clear hx hy fa fb hs
          go_enter Try.func11, Try.ntmps11
          go_wp2_with fail
          refine (rFits a size _).mono ?_
          rintro e w1 ⟨rfl, hb1⟩
          clear ca0 ca1 ca2 ca3 cb0 cb1 cb2 cb3
          replace ca := ca.below hb1
          replace cb := cb.below hb1
          replace hB0 := below_then hB0 hB0.size hb1
          clear hb1
          obtain ⟨ca0, ca1, ca2, ca3⟩ := id ca
          obtain ⟨cb0, cb1, cb2, cb3⟩ := id cb
          rw [ha.out]
          go_wp2_with fail
          refine (rFits b size _).mono ?_
          rintro e w2 ⟨rfl, hb1⟩
          clear ca0 ca1 ca2 ca3 cb0 cb1 cb2 cb3
          replace ca := ca.below hb1
          replace cb := cb.below hb1
          replace hB0 := below_then hB0 hB0.size hb1
          clear hb1
          obtain ⟨ca0, ca1, ca2, ca3⟩ := id ca
          obtain ⟨cb0, cb1, cb2, cb3⟩ := id cb
          rw [hb.out]
          go_wp2
          go_quiet (fail)
          clear wx wy
          rw [← hxh.out, ← hyh.out]
          replace hB0 := below_drewN hB0 nq
          replace ca := ca.below (below_drewN (Below.refl _ _) nq)
          replace cb := cb.below (below_drewN (Below.refl _ _) nq)
          generalize World.drewN w2 nq = W2 at *
          clear ca0 ca1 ca2 ca3 cb0 cb1 cb2 cb3
          obtain ⟨ca0, ca1, ca2, ca3⟩ := id ca
          obtain ⟨cb0, cb1, cb2, cb3⟩ := id cb
          clear hxh hyh
          subst hi
          subst hj
          have s1 := Lib.hid (fun W => sZero 0 W rfl)
          have s2 := Lib.hid (fun W => sZero 0 W rfl)
          go_wp2_with fail
          refine (s1.out _).mono ?_
          rintro e w3 ⟨rfl, rfl⟩
          go_wp2_with fail
          refine (s2.out _).mono ?_
          rintro e w4 ⟨rfl, rfl⟩
          go_wp2
          go_ret
          exact ⟨by rw [hv.out]; rfl, hB0⟩
        · have hv := Lib.hid (bet_true (now := now) fa fb hs (by omega))
          have wx : wrap64 (size - a.live) = size - a.live := by unfold wrap64; omega
          have wy : wrap64 (size - b.live) = size - b.live := by unfold wrap64; omega
          have hxh := Lib.hid hx
          have hyh := Lib.hid hy
          clear hx hy fa fb hs
          go_enter Try.func11, Try.ntmps11
          go_wp2_with fail
          refine (rFits a size _).mono ?_
          rintro e w1 ⟨rfl, hb1⟩
          clear ca0 ca1 ca2 ca3 cb0 cb1 cb2 cb3
          replace ca := ca.below hb1
          replace cb := cb.below hb1
          replace hB0 := below_then hB0 hB0.size hb1
          clear hb1
          obtain ⟨ca0, ca1, ca2, ca3⟩ := id ca
          obtain ⟨cb0, cb1, cb2, cb3⟩ := id cb
          rw [ha.out]
          go_wp2_with fail
          refine (rFits b size _).mono ?_
          rintro e w2 ⟨rfl, hb1⟩
          clear ca0 ca1 ca2 ca3 cb0 cb1 cb2 cb3
          replace ca := ca.below hb1
          replace cb := cb.below hb1
          replace hB0 := below_then hB0 hB0.size hb1
          clear hb1
          obtain ⟨ca0, ca1, ca2, ca3⟩ := id ca
          obtain ⟨cb0, cb1, cb2, cb3⟩ := id cb
          rw [hb.out]
          go_wp2
          go_quiet (fail)
          clear wx wy
          rw [← hxh.out, ← hyh.out]
          replace hB0 := below_drewN hB0 nq
          replace ca := ca.below (below_drewN (Below.refl _ _) nq)
          replace cb := cb.below (below_drewN (Below.refl _ _) nq)
          generalize World.drewN w2 nq = W2 at *
          clear ca0 ca1 ca2 ca3 cb0 cb1 cb2 cb3
          obtain ⟨ca0, ca1, ca2, ca3⟩ := id ca
          obtain ⟨cb0, cb1, cb2, cb3⟩ := id cb
          clear hxh hyh
          subst hi
          have s1 := Lib.hid (fun W => sZero 0 W rfl)
          have s2 := Lib.hid (fun W => sNeg y W hj)
          go_wp2_with fail
          refine (s1.out _).mono ?_
          rintro e w3 ⟨rfl, rfl⟩
          go_wp2_with fail
          refine (s2.out _).mono ?_
          rintro e w4 ⟨rfl, rfl⟩
          go_wp2
          go_ret
          exact ⟨by rw [hv.out]; rfl, hB0⟩
      · rcases t2 with hj | hj | hj
        · have hv := Lib.hid (bet_false (now := now) fa fb hs (by omega))
          have wx : wrap64 (size - a.live) = size - a.live := by unfold wrap64; omega
          have wy : wrap64 (size - b.live) = size - b.live := by unfold wrap64; omega
          have hxh := Lib.hid hx
          have hyh := Lib.hid hy
          clear hx hy fa fb hs
          go_enter Try.func11, Try.ntmps11
          go_wp2_with fail
          refine (rFits a size _).mono ?_
          rintro e w1 ⟨rfl, hb1⟩
          clear ca0 ca1 ca2 ca3 cb0 cb1 cb2 cb3
          replace ca := ca.below hb1
          replace cb := cb.below hb1
          replace hB0 := below_then hB0 hB0.size hb1
          clear hb1
          obtain ⟨ca0, ca1, ca2, ca3⟩ := id ca
          obtain ⟨cb0, cb1, cb2, cb3⟩ := id cb
          rw [ha.out]
          go_wp2_with fail
          refine (rFits b size _).mono ?_
          rintro e w2 ⟨rfl, hb1⟩
          clear ca0 ca1 ca2 ca3 cb0 cb1 cb2 cb3
          replace ca := ca.below hb1
          replace cb := cb.below hb1
          replace hB0 := below_then hB0 hB0.size hb1
          clear hb1
          obtain ⟨ca0, ca1, ca2, ca3⟩ := id ca
          obtain ⟨cb0, cb1, cb2, cb3⟩ := id cb
          rw [hb.out]
          go_wp2
          go_quiet (fail)
          clear wx wy
          rw [← hxh.out, ← hyh.out]
          replace hB0 := below_drewN hB0 nq
          replace ca := ca.below (below_drewN (Below.refl _ _) nq)
          replace cb := cb.below (below_drewN (Below.refl _ _) nq)
          generalize World.drewN w2 nq = W2 at *
          clear ca0 ca1 ca2 ca3 cb0 cb1 cb2 cb3
          obtain ⟨ca0, ca1, ca2, ca3⟩ := id ca
          obtain ⟨cb0, cb1, cb2, cb3⟩ := id cb
          clear hxh hyh
          have s1 := Lib.hid (fun W => sNeg x W hi)
          have s2 := Lib.hid (fun W => sPos y W hj)
          go_wp2_with fail
          refine (s1.out _).mono ?_
          rintro e w3 ⟨rfl, rfl⟩
          go_wp2_with fail
          refine (s2.out _).mono ?_
          rintro e w4 ⟨rfl, rfl⟩
          go_wp2
          go_ret
          exact ⟨by rw [hv.out]; rfl, hB0⟩
        · have hv := Lib.hid (bet_false (now := now) fa fb hs (by omega))
          have wx : wrap64 (size - a.live) = size - a.live := by unfold wrap64; omega
          have wy : wrap64 (size - b.live) = size - b.live := by unfold wrap64; omega
          have hxh := Lib.hid hx
          have hyh := Lib.hid hy
          clear hx hy fa fb hs
          go_enter Try.func11, Try.ntmps11
          go_wp2_with fail
          refine (rFits a size _).mono ?_
          rintro e w1 ⟨rfl, hb1⟩
          clear ca0 ca1 ca2 ca3 cb0 cb1 cb2 cb3
          replace ca := ca.below hb1
          replace cb := cb.below hb1
          replace hB0 := below_then hB0 hB0.size hb1
          clear hb1
          obtain ⟨ca0, ca1, ca2, ca3⟩ := id ca
          obtain ⟨cb0, cb1, cb2, cb3⟩ := id cb
          rw [ha.out]
          go_wp2_with fail
          refine (rFits b size _).mono ?_
          rintro e w2 ⟨rfl, hb1⟩
          clear ca0 ca1 ca2 ca3 cb0 cb1 cb2 cb3
          replace ca := ca.below hb1
          replace cb := cb.below hb1
          replace hB0 := below_then hB0 hB0.size hb1
          clear hb1
          obtain ⟨ca0, ca1, ca2, ca3⟩ := id ca
          obtain ⟨cb0, cb1, cb2, cb3⟩ := id cb
          rw [hb.out]
          go_wp2
          go_quiet (fail)
          clear wx wy
          rw [← hxh.out, ← hyh.out]
          replace hB0 := below_drewN hB0 nq
          replace ca := ca.below (below_drewN (Below.refl _ _) nq)
          replace cb := cb.below (below_drewN (Below.refl _ _) nq)
          generalize World.drewN w2 nq = W2 at *
          clear ca0 ca1 ca2 ca3 cb0 cb1 cb2 cb3
          obtain ⟨ca0, ca1, ca2, ca3⟩ := id ca
          obtain ⟨cb0, cb1, cb2, cb3⟩ := id cb
          clear hxh hyh
          subst hj
          have s1 := Lib.hid (fun W => sNeg x W hi)
          have s2 := Lib.hid (fun W => sZero 0 W rfl)
          go_wp2_with fail
          refine (s1.out _).mono ?_
          rintro e w3 ⟨rfl, rfl⟩
          go_wp2_with fail
          refine (s2.out _).mono ?_
          rintro e w4 ⟨rfl, rfl⟩
          go_wp2
          go_ret
          exact ⟨by rw [hv.out]; rfl, hB0⟩
        · have hv := Lib.hid (bet_nn (now := now) fa fb hs)
          have hc := Lib.hid (fun W => rLess (-x) (-y) a b size now W fa fb hs ga gb gn (by omega) (by omega))
          rw [← hx, ← hy] at hv
          generalize decide (-x * (size + b.live) * (ageS a now + 1) < -y * (size + a.live) * (ageS b now + 1)) = r at *
          have wx : wrap64 (size - a.live) = size - a.live := by unfold wrap64; omega
          have wy : wrap64 (size - b.live) = size - b.live := by unfold wrap64; omega
          have hxh := Lib.hid hx
          have hyh := Lib.hid hy
          clear hx hy fa fb hs
          go_enter Try.func11, Try.ntmps11
          go_wp2_with fail
          refine (rFits a size _).mono ?_
          rintro e w1 ⟨rfl, hb1⟩
          clear ca0 ca1 ca2 ca3 cb0 cb1 cb2 cb3
          replace ca := ca.below hb1
          replace cb := cb.below hb1
          replace hB0 := below_then hB0 hB0.size hb1
          clear hb1
          obtain ⟨ca0, ca1, ca2, ca3⟩ := id ca
          obtain ⟨cb0, cb1, cb2, cb3⟩ := id cb
          rw [ha.out]
          go_wp2_with fail
          refine (rFits b size _).mono ?_
          rintro e w2 ⟨rfl, hb1⟩
          clear ca0 ca1 ca2 ca3 cb0 cb1 cb2 cb3
          replace ca := ca.below hb1
          replace cb := cb.below hb1
          replace hB0 := below_then hB0 hB0.size hb1
          clear hb1
          obtain ⟨ca0, ca1, ca2, ca3⟩ := id ca
          obtain ⟨cb0, cb1, cb2, cb3⟩ := id cb
          rw [hb.out]
          go_wp2
          go_quiet (fail)
          clear wx wy
          rw [← hxh.out, ← hyh.out]
          replace hB0 := below_drewN hB0 nq
          replace ca := ca.below (below_drewN (Below.refl _ _) nq)
          replace cb := cb.below (below_drewN (Below.refl _ _) nq)
          generalize World.drewN w2 nq = W2 at *
          clear ca0 ca1 ca2 ca3 cb0 cb1 cb2 cb3
          obtain ⟨ca0, ca1, ca2, ca3⟩ := id ca
          obtain ⟨cb0, cb1, cb2, cb3⟩ := id cb
          clear hxh hyh
          have s1 := Lib.hid (fun W => sNeg x W hi)
          have s2 := Lib.hid (fun W => sNeg y W hj)
          go_wp2_with fail
          refine (s1.out _).mono ?_
          rintro e w3 ⟨rfl, rfl⟩
          go_wp2_with fail
          refine (s2.out _).mono ?_
          rintro e w4 ⟨rfl, rfl⟩
          go_wp2_with fail
          refine (hc.out _).mono ?_
          rintro e w5 ⟨rfl, hb1⟩
          replace hB0 := below_then hB0 hB0.size hb1
          go_wp2
          go_ret
          exact ⟨by rw [hv.out]; rfl, hB0⟩
end Go.Proofs.Ytnjmllkcodppgaa
