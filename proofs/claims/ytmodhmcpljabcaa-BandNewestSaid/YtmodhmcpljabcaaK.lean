/- Contracts of tegularef16.Append, Unlink, Reset. -/
import Derived.Test.YtmodhmcpljabcaaJ
namespace Go.Proofs.Ytmodhmcpljabcaa
open Go.RowKit
set_option linter.unusedVariables false

theorem refAppend_range (A : Option Addr) (c : Nat) (l : List BI) (size i now : Int) (w : World) (hl : l.length ≤ 1000) (hi : i < 0 ∨ (l.length : Int) ≤ i) :
    Calls Try.prog 18 #[.slice A l.length c, .int .i64 size, .int .i64 i, .int .u64 now] w fun e w' => e = .returned (.tuple #[.slice none 0 0, .int .i64 2]) ∧ Below w.heap.size w w' := by
  have hl0 : l.length ≤ 9223372036854775807 := by omega
  by_cases h : i < 0
  · go_enter Try.func18, Try.ntmps18
    go_wp2
    go_ret2
    exact ⟨rfl, Below.refl _ _⟩
  · have h2 : (l.length : Int) ≤ i := by omega
    clear hi
    go_enter Try.func18, Try.ntmps18
    go_wp2
    go_ret2
    exact ⟨rfl, Below.refl _ _⟩

theorem refAppend_no (A : Option Addr) (c : Nat) (l : List BI) (size : Int) (i : Nat) (now : Int) (w : World) (hl : l.length ≤ 1000) (h : Bs w A l) (hi : i < l.length) (hlt : size ≤ l[i].used) :
    Calls Try.prog 18 #[.slice A l.length c, .int .i64 size, .int .i64 i, .int .u64 now] w fun e w' => e = .returned (.tuple #[.slice none 0 0, .int .i64 11]) ∧ Below w.heap.size w w' := by
  have hl0 : l.length ≤ 9223372036854775807 := by omega
  obtain ⟨ad, rfl, c0, c1, c2, c3⟩ := h.at_ hi
  have d : decide (size ≤ l[i].used) = true := decide_eq_true hlt
  clear hlt
  go_enter Try.func18, Try.ntmps18
  go_wp2
  go_ret2
  exact ⟨rfl, (Below.refl _ _).alloc (Nat.le_refl _) _⟩

set_option maxHeartbeats 1000000 in
theorem refAppend_ok (A : Option Addr) (c : Nat) (l : List BI) (size : Int) (i : Nat) (now : Int) (w : World) (hl : l.length ≤ 1000) (h : Bs w A l) (hi : i < l.length) (hlt : l[i].used < size) :
    Calls Try.prog 18 #[.slice A l.length c, .int .i64 size, .int .i64 i, .int .u64 now] w fun e w' => ∃ v, e = .returned (.tuple #[v, .int .i64 0]) ∧ Own w' w.heap.size v (l.set i (appB now l[i])) ∧ Below w.heap.size w w' := by
  have hl0 : l.length ≤ 9223372036854775807 := by omega
  obtain ⟨ad, rfl, c0, c1, c2, c3⟩ := h.at_ hi
  have d : decide (size ≤ l[i].used) = false := decide_eq_false (by omega)
  clear hlt
  go_enter Try.func18, Try.ntmps18
  go_wp2_with fail
  have hB0 : Below w.heap.size w (w.alloc (.cells #[.int .i64 l[i].used, .int .i64 l[i].live, .int .u64 l[i].age, .int .u64 l[i].wear] 35)) := by first | exact Below.refl _ _ | exact (Below.refl _ _).alloc (Nat.le_refl _) _
  refine (with_ (some ad) c l i (appB now l[i]) _ hl hi (h.below hB0)).mono ?_
  rintro e w2 ⟨v, rfl, ho, hb⟩
  replace ho := ho.lower hB0.size
  have hB2 := below_then hB0 hB0.size hb
  clear hb
  go_wp2
  go_ret2
  exact ⟨_, rfl, ho, hB2⟩

theorem refUnlink_range (A : Option Addr) (c : Nat) (l : List BI) (i : Int) (w : World) (hl : l.length ≤ 1000) (hi : i < 0 ∨ (l.length : Int) ≤ i) :
    Calls Try.prog 21 #[.slice A l.length c, .int .i64 i] w fun e w' => e = .returned (.tuple #[.slice none 0 0, .int .i64 2]) ∧ Below w.heap.size w w' := by
  have hl0 : l.length ≤ 9223372036854775807 := by omega
  by_cases h : i < 0
  · go_enter Try.func21, Try.ntmps21
    go_wp2
    go_ret2
    exact ⟨rfl, Below.refl _ _⟩
  · have h2 : (l.length : Int) ≤ i := by omega
    clear hi
    go_enter Try.func21, Try.ntmps21
    go_wp2
    go_ret2
    exact ⟨rfl, Below.refl _ _⟩

theorem refUnlink_no (A : Option Addr) (c : Nat) (l : List BI) (i : Nat) (w : World) (hl : l.length ≤ 1000) (h : Bs w A l) (hi : i < l.length) (hlt : l[i].live < 1) :
    Calls Try.prog 21 #[.slice A l.length c, .int .i64 i] w fun e w' => e = .returned (.tuple #[.slice none 0 0, .int .i64 8]) ∧ Below w.heap.size w w' := by
  have hl0 : l.length ≤ 9223372036854775807 := by omega
  obtain ⟨ad, rfl, c0, c1, c2, c3⟩ := h.at_ hi
  have d : decide (l[i].live < 1) = true := decide_eq_true hlt
  clear hlt
  go_enter Try.func21, Try.ntmps21
  go_wp2
  go_ret2
  exact ⟨rfl, (Below.refl _ _).alloc (Nat.le_refl _) _⟩

set_option maxHeartbeats 1000000 in
theorem refUnlink_ok (A : Option Addr) (c : Nat) (l : List BI) (i : Nat) (w : World) (hl : l.length ≤ 1000) (h : Bs w A l) (hi : i < l.length) (hlt : 1 ≤ l[i].live) :
    Calls Try.prog 21 #[.slice A l.length c, .int .i64 i] w fun e w' => ∃ v, e = .returned (.tuple #[v, .int .i64 0]) ∧ Own w' w.heap.size v (l.set i (unlB l[i])) ∧ Below w.heap.size w w' := by
  have hl0 : l.length ≤ 9223372036854775807 := by omega
  obtain ⟨ad, rfl, c0, c1, c2, c3⟩ := h.at_ hi
  have d : decide (l[i].live < 1) = false := decide_eq_false (by omega)
  clear hlt
  go_enter Try.func21, Try.ntmps21
  go_wp2_with fail
  have hB0 : Below w.heap.size w (w.alloc (.cells #[.int .i64 l[i].used, .int .i64 l[i].live, .int .u64 l[i].age, .int .u64 l[i].wear] 35)) := by first | exact Below.refl _ _ | exact (Below.refl _ _).alloc (Nat.le_refl _) _
  refine (with_ (some ad) c l i (unlB l[i]) _ hl hi (h.below hB0)).mono ?_
  rintro e w2 ⟨v, rfl, ho, hb⟩
  replace ho := ho.lower hB0.size
  have hB2 := below_then hB0 hB0.size hb
  clear hb
  go_wp2
  go_ret2
  exact ⟨_, rfl, ho, hB2⟩

theorem refReset_range (A : Option Addr) (c : Nat) (l : List BI) (i : Int) (w : World) (hl : l.length ≤ 1000) (hi : i < 0 ∨ (l.length : Int) ≤ i) :
    Calls Try.prog 23 #[.slice A l.length c, .int .i64 i] w fun e w' => e = .returned (.tuple #[.slice none 0 0, .int .i64 2]) ∧ Below w.heap.size w w' := by
  have hl0 : l.length ≤ 9223372036854775807 := by omega
  by_cases h : i < 0
  · go_enter Try.func23, Try.ntmps23
    go_wp2
    go_ret2
    exact ⟨rfl, Below.refl _ _⟩
  · have h2 : (l.length : Int) ≤ i := by omega
    clear hi
    go_enter Try.func23, Try.ntmps23
    go_wp2
    go_ret2
    exact ⟨rfl, Below.refl _ _⟩

set_option maxHeartbeats 1000000 in
theorem refReset_ok (A : Option Addr) (c : Nat) (l : List BI) (i : Nat) (w : World) (hl : l.length ≤ 1000) (h : Bs w A l) (hi : i < l.length) :
    Calls Try.prog 23 #[.slice A l.length c, .int .i64 i] w fun e w' => ∃ v, e = .returned (.tuple #[v, .int .i64 0]) ∧ Own w' w.heap.size v (l.set i (rstB l[i])) ∧ Below w.heap.size w w' := by
  have hl0 : l.length ≤ 9223372036854775807 := by omega
  obtain ⟨ad, rfl, c0, c1, c2, c3⟩ := h.at_ hi
  
  go_enter Try.func23, Try.ntmps23
  go_wp2_with fail
  have hB0 : Below w.heap.size w w := by first | exact Below.refl _ _ | exact (Below.refl _ _).alloc (Nat.le_refl _) _
  refine (with_ (some ad) c l i (rstB l[i]) _ hl hi (h.below hB0)).mono ?_
  rintro e w2 ⟨v, rfl, ho, hb⟩
  replace ho := ho.lower hB0.size
  have hB2 := below_then hB0 hB0.size hb
  clear hb
  go_wp2
  go_ret2
  exact ⟨_, rfl, ho, hB2⟩
end Go.Proofs.Ytmodhmcpljabcaa
