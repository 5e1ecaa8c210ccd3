/- Contracts of band.change with its three closures, of band.Append, Unlink, Reset. -/
import Derived.Test.YtmodhmcpljabcaaI
namespace Go.Proofs.Ytmodhmcpljabcaa
open Go.RowKit
set_option linter.unusedVariables false

theorem change_range (A : Option Addr) (c : Nat) (l : List BI) (i : Int) (F : Value) (w : World) (hl : l.length ≤ 1000) (hi : i < 0 ∨ (l.length : Int) ≤ i) :
    Calls Try.prog 28 #[.slice A l.length c, .int .i64 i, F] w fun e w' => e = .returned (.tuple #[.slice none 0 0, .int .i64 2]) ∧ w = w' := by
  have hl0 : l.length ≤ 9223372036854775807 := by omega
  by_cases h : i < 0
  · go_enter Try.func28, Try.ntmps28
    go_wp2
    go_ret2
    exact ⟨rfl, rfl⟩
  · have h2 : (l.length : Int) ≤ i := by omega
    clear hi
    go_enter Try.func28, Try.ntmps28
    go_wp2
    go_ret2
    exact ⟨rfl, rfl⟩

set_option maxHeartbeats 1000000 in
theorem changeApp_no (A : Option Addr) (c : Nat) (l : List BI) (i : Nat) (gs gn : Nat) (size now : Int) (w : World) (hl : l.length ≤ 1000) (h : Bs w A l) (hi : i < l.length) (hs : w.cell? ⟨gs, 0, none⟩ = some (.int .i64 size)) (hn : w.cell? ⟨gn, 0, none⟩ = some (.int .u64 now)) (hlt : size ≤ l[i].used) :
    Calls Try.prog 28 #[.slice A l.length c, .int .i64 i, .func (.func 29) #[] #[.pointer (some ⟨gs, 0, none⟩), .pointer (some ⟨gn, 0, none⟩)]] w fun e w' => e = .returned (.tuple #[.slice none 0 0, .int .i64 11]) ∧ Below w.heap.size w w' := by
  have hl0 : l.length ≤ 9223372036854775807 := by omega
  go_enter Try.func28, Try.ntmps28
  go_wp2_with fail
  refine (clone A c l _ hl h).mono ?_
  rintro e w1 ⟨v1, rfl, ho, hb1⟩
  obtain ⟨g, c', rfl, hgb⟩ := ho.to_ptr (by rintro rfl; simp at hi)
  replace hs := cell_below hb1 hs
  have hgn : gn ≠ g := by
    have := World.block_lt_of_cell? w _ hn
    simp at this
    omega
  replace hn := cell_below hb1 hn
  go_wp2_with fail
  refine (append1_no _ g _ c' gs ⟨gn, 0, none⟩ l i size _ ho hi hs hlt).mono ?_
  rintro e w2 ⟨rfl, hq⟩
  have hB2 : Below w.heap.size w w2 := below_then hb1 hb1.size (by first | exact hq.below | (cases hq; exact Below.refl _ _))
  clear hq hb1
  go_wp2
  go_ret2
  exact ⟨rfl, hB2⟩

set_option maxHeartbeats 1000000 in
theorem changeApp_ok (A : Option Addr) (c : Nat) (l : List BI) (i : Nat) (gs gn : Nat) (size now : Int) (w : World) (hl : l.length ≤ 1000) (h : Bs w A l) (hi : i < l.length) (hs : w.cell? ⟨gs, 0, none⟩ = some (.int .i64 size)) (hn : w.cell? ⟨gn, 0, none⟩ = some (.int .u64 now)) (hlt : l[i].used < size) :
    Calls Try.prog 28 #[.slice A l.length c, .int .i64 i, .func (.func 29) #[] #[.pointer (some ⟨gs, 0, none⟩), .pointer (some ⟨gn, 0, none⟩)]] w fun e w' => ∃ v, e = .returned (.tuple #[v, .int .i64 0]) ∧ Own w' w.heap.size v (l.set i (appB now l[i])) ∧ Below w.heap.size w w' := by
  have hl0 : l.length ≤ 9223372036854775807 := by omega
  go_enter Try.func28, Try.ntmps28
  go_wp2_with fail
  refine (clone A c l _ hl h).mono ?_
  rintro e w1 ⟨v1, rfl, ho, hb1⟩
  obtain ⟨g, c', rfl, hgb⟩ := ho.to_ptr (by rintro rfl; simp at hi)
  replace hs := cell_below hb1 hs
  have hgn : gn ≠ g := by
    have := World.block_lt_of_cell? w _ hn
    simp at this
    omega
  replace hn := cell_below hb1 hn
  go_wp2_with fail
  refine (append1_ok _ g _ c' gs gn l i size now _ ho hi hs hn hgn hlt).mono ?_
  rintro e w2 ⟨rfl, ho2, hg2⟩
  have hB2 := hb1.grown hg2 hb1.size (fun k hk => by cases hk; exact hgb)
  clear hg2 hb1
  go_wp2
  go_ret2
  exact ⟨_, rfl, ho2, hB2⟩

set_option maxHeartbeats 1000000 in
theorem changeUnl_no (A : Option Addr) (c : Nat) (l : List BI) (i : Nat) (w : World) (hl : l.length ≤ 1000) (h : Bs w A l) (hi : i < l.length) (hlt : l[i].live < 1) :
    Calls Try.prog 28 #[.slice A l.length c, .int .i64 i, .func (.func 31) #[] #[]] w fun e w' => e = .returned (.tuple #[.slice none 0 0, .int .i64 8]) ∧ Below w.heap.size w w' := by
  have hl0 : l.length ≤ 9223372036854775807 := by omega
  go_enter Try.func28, Try.ntmps28
  go_wp2_with fail
  refine (clone A c l _ hl h).mono ?_
  rintro e w1 ⟨v1, rfl, ho, hb1⟩
  obtain ⟨g, c', rfl, hgb⟩ := ho.to_ptr (by rintro rfl; simp at hi)
  go_wp2_with fail
  refine (unlink1_no _ g _ c' l i _ ho hi hlt).mono ?_
  rintro e w2 ⟨rfl, hq⟩
  have hB2 : Below w.heap.size w w2 := below_then hb1 hb1.size (by first | exact hq.below | (cases hq; exact Below.refl _ _))
  clear hq hb1
  go_wp2
  go_ret2
  exact ⟨rfl, hB2⟩

set_option maxHeartbeats 1000000 in
theorem changeUnl_ok (A : Option Addr) (c : Nat) (l : List BI) (i : Nat) (w : World) (hl : l.length ≤ 1000) (h : Bs w A l) (hi : i < l.length) (hlt : 1 ≤ l[i].live) :
    Calls Try.prog 28 #[.slice A l.length c, .int .i64 i, .func (.func 31) #[] #[]] w fun e w' => ∃ v, e = .returned (.tuple #[v, .int .i64 0]) ∧ Own w' w.heap.size v (l.set i (unlB l[i])) ∧ Below w.heap.size w w' := by
  have hl0 : l.length ≤ 9223372036854775807 := by omega
  go_enter Try.func28, Try.ntmps28
  go_wp2_with fail
  refine (clone A c l _ hl h).mono ?_
  rintro e w1 ⟨v1, rfl, ho, hb1⟩
  obtain ⟨g, c', rfl, hgb⟩ := ho.to_ptr (by rintro rfl; simp at hi)
  go_wp2_with fail
  refine (unlink1_ok _ g _ c' l i _ ho hi hlt).mono ?_
  rintro e w2 ⟨rfl, ho2, hg2⟩
  have hB2 := hb1.grown hg2 hb1.size (fun k hk => by cases hk; exact hgb)
  clear hg2 hb1
  go_wp2
  go_ret2
  exact ⟨_, rfl, ho2, hB2⟩

set_option maxHeartbeats 1000000 in
theorem changeRst (A : Option Addr) (c : Nat) (l : List BI) (i : Nat) (w : World) (hl : l.length ≤ 1000) (h : Bs w A l) (hi : i < l.length) :
    Calls Try.prog 28 #[.slice A l.length c, .int .i64 i, .func (.func 32) #[] #[]] w fun e w' => ∃ v, e = .returned (.tuple #[v, .int .i64 0]) ∧ Own w' w.heap.size v (l.set i (rstB l[i])) ∧ Below w.heap.size w w' := by
  have hl0 : l.length ≤ 9223372036854775807 := by omega
  go_enter Try.func28, Try.ntmps28
  go_wp2_with fail
  refine (clone A c l _ hl h).mono ?_
  rintro e w1 ⟨v1, rfl, ho, hb1⟩
  obtain ⟨g, c', rfl, hgb⟩ := ho.to_ptr (by rintro rfl; simp at hi)
  go_wp2_with fail
  refine (reset1 _ g _ c' l i _ ho hi).mono ?_
  rintro e w2 ⟨rfl, ho2, hg2⟩
  have hB2 := hb1.grown hg2 hb1.size (fun k hk => by cases hk; exact hgb)
  clear hg2 hb1
  go_wp2
  go_ret2
  exact ⟨_, rfl, ho2, hB2⟩

set_option maxHeartbeats 1000000 in
theorem bandAppend_range (A : Option Addr) (c : Nat) (l : List BI) (size i now : Int) (w : World) (hl : l.length ≤ 1000) (h : Bs w A l) (hi : i < 0 ∨ (l.length : Int) ≤ i) :
    Calls Try.prog 17 #[.slice A l.length c, .int .i64 size, .int .i64 i, .int .u64 now] w fun e w' => e = .returned (.tuple #[.slice none 0 0, .int .i64 2]) ∧ Below w.heap.size w w' := by
  have hB0 : Below w.heap.size w ((w.alloc (.cells #[.int .i64 size] 3)).alloc (.cells #[.int .u64 now] 27)) := ((Below.refl _ _).alloc (Nat.le_refl _) _).alloc (by simp) _
  have hs : ((w.alloc (.cells #[.int .i64 size] 3)).alloc (.cells #[.int .u64 now] 27)).cell? ⟨w.heap.size, 0, none⟩ = some (.int .i64 size) := cell_alloc (cell_of_one (heap_alloc_new _ _)) _
  have hn : ((w.alloc (.cells #[.int .i64 size] 3)).alloc (.cells #[.int .u64 now] 27)).cell? ⟨w.heap.size + 1, 0, none⟩ = some (.int .u64 now) := by
    have e : w.heap.size + 1 = (w.alloc (.cells #[.int .i64 size] 3)).heap.size := by simp
    rw [e]; exact cell_of_one (heap_alloc_new _ _)
  replace h := h.below hB0
  have hz := hB0.size
  generalize hW : (w.alloc (.cells #[.int .i64 size] 3)).alloc (.cells #[.int .u64 now] 27) = W at *
  have hW' := Lib.hid hW
  clear hW
  go_enter Try.func17, Try.ntmps17
  go_wp2_with fail
  rw [hW'.out]
  refine (change_range A c l i _ _ hl hi).mono ?_
  rintro e w2 ⟨rfl, hb⟩
  have hB2 : Below w.heap.size w w2 := below_then hB0 hz (by first | exact hb | (cases hb; exact Below.refl _ _))
  clear hb
  go_wp2
  go_ret2
  exact ⟨rfl, hB2⟩

set_option maxHeartbeats 1000000 in
theorem bandAppend_no (A : Option Addr) (c : Nat) (l : List BI) (size : Int) (i : Nat) (now : Int) (w : World) (hl : l.length ≤ 1000) (h : Bs w A l) (hi : i < l.length) (hlt : size ≤ l[i].used) :
    Calls Try.prog 17 #[.slice A l.length c, .int .i64 size, .int .i64 i, .int .u64 now] w fun e w' => e = .returned (.tuple #[.slice none 0 0, .int .i64 11]) ∧ Below w.heap.size w w' := by
  have hB0 : Below w.heap.size w ((w.alloc (.cells #[.int .i64 size] 3)).alloc (.cells #[.int .u64 now] 27)) := ((Below.refl _ _).alloc (Nat.le_refl _) _).alloc (by simp) _
  have hs : ((w.alloc (.cells #[.int .i64 size] 3)).alloc (.cells #[.int .u64 now] 27)).cell? ⟨w.heap.size, 0, none⟩ = some (.int .i64 size) := cell_alloc (cell_of_one (heap_alloc_new _ _)) _
  have hn : ((w.alloc (.cells #[.int .i64 size] 3)).alloc (.cells #[.int .u64 now] 27)).cell? ⟨w.heap.size + 1, 0, none⟩ = some (.int .u64 now) := by
    have e : w.heap.size + 1 = (w.alloc (.cells #[.int .i64 size] 3)).heap.size := by simp
    rw [e]; exact cell_of_one (heap_alloc_new _ _)
  replace h := h.below hB0
  have hz := hB0.size
  generalize hW : (w.alloc (.cells #[.int .i64 size] 3)).alloc (.cells #[.int .u64 now] 27) = W at *
  have hW' := Lib.hid hW
  clear hW
  go_enter Try.func17, Try.ntmps17
  go_wp2_with fail
  rw [hW'.out]
  refine (changeApp_no A c l i _ _ size now _ hl h hi hs hn hlt).mono ?_
  rintro e w2 ⟨rfl, hb⟩
  have hB2 : Below w.heap.size w w2 := below_then hB0 hz (by first | exact hb | (cases hb; exact Below.refl _ _))
  clear hb
  go_wp2
  go_ret2
  exact ⟨rfl, hB2⟩

set_option maxHeartbeats 1000000 in
theorem bandAppend_ok (A : Option Addr) (c : Nat) (l : List BI) (size : Int) (i : Nat) (now : Int) (w : World) (hl : l.length ≤ 1000) (h : Bs w A l) (hi : i < l.length) (hlt : l[i].used < size) :
    Calls Try.prog 17 #[.slice A l.length c, .int .i64 size, .int .i64 i, .int .u64 now] w fun e w' => ∃ v, e = .returned (.tuple #[v, .int .i64 0]) ∧ Own w' w.heap.size v (l.set i (appB now l[i])) ∧ Below w.heap.size w w' := by
  have hB0 : Below w.heap.size w ((w.alloc (.cells #[.int .i64 size] 3)).alloc (.cells #[.int .u64 now] 27)) := ((Below.refl _ _).alloc (Nat.le_refl _) _).alloc (by simp) _
  have hs : ((w.alloc (.cells #[.int .i64 size] 3)).alloc (.cells #[.int .u64 now] 27)).cell? ⟨w.heap.size, 0, none⟩ = some (.int .i64 size) := cell_alloc (cell_of_one (heap_alloc_new _ _)) _
  have hn : ((w.alloc (.cells #[.int .i64 size] 3)).alloc (.cells #[.int .u64 now] 27)).cell? ⟨w.heap.size + 1, 0, none⟩ = some (.int .u64 now) := by
    have e : w.heap.size + 1 = (w.alloc (.cells #[.int .i64 size] 3)).heap.size := by simp
    rw [e]; exact cell_of_one (heap_alloc_new _ _)
  replace h := h.below hB0
  have hz := hB0.size
  generalize hW : (w.alloc (.cells #[.int .i64 size] 3)).alloc (.cells #[.int .u64 now] 27) = W at *
  have hW' := Lib.hid hW
  clear hW
  go_enter Try.func17, Try.ntmps17
  go_wp2_with fail
  rw [hW'.out]
  refine (changeApp_ok A c l i _ _ size now _ hl h hi hs hn hlt).mono ?_
  rintro e w2 ⟨v, rfl, ho, hb⟩
  replace ho := ho.lower hz
  have hB2 := below_then hB0 hz hb
  clear hb
  go_wp2
  go_ret2
  exact ⟨_, rfl, ho, hB2⟩

set_option maxHeartbeats 1000000 in
theorem bandUnlink_range (A : Option Addr) (c : Nat) (l : List BI) (i : Int) (w : World) (hl : l.length ≤ 1000) (h : Bs w A l) (hi : i < 0 ∨ (l.length : Int) ≤ i) :
    Calls Try.prog 20 #[.slice A l.length c, .int .i64 i] w fun e w' => e = .returned (.tuple #[.slice none 0 0, .int .i64 2]) ∧ Below w.heap.size w w' := by
  have hB0 := Below.refl w.heap.size w
  have hz := hB0.size
  go_enter Try.func20, Try.ntmps20
  go_wp2_with fail
  refine (change_range A c l i _ _ hl hi).mono ?_
  rintro e w2 ⟨rfl, hb⟩
  have hB2 : Below w.heap.size w w2 := below_then hB0 hz (by first | exact hb | (cases hb; exact Below.refl _ _))
  clear hb
  go_wp2
  go_ret2
  exact ⟨rfl, hB2⟩

set_option maxHeartbeats 1000000 in
theorem bandUnlink_no (A : Option Addr) (c : Nat) (l : List BI) (i : Nat) (w : World) (hl : l.length ≤ 1000) (h : Bs w A l) (hi : i < l.length) (hlt : l[i].live < 1) :
    Calls Try.prog 20 #[.slice A l.length c, .int .i64 i] w fun e w' => e = .returned (.tuple #[.slice none 0 0, .int .i64 8]) ∧ Below w.heap.size w w' := by
  have hB0 := Below.refl w.heap.size w
  have hz := hB0.size
  go_enter Try.func20, Try.ntmps20
  go_wp2_with fail
  refine (changeUnl_no A c l i _ hl h hi hlt).mono ?_
  rintro e w2 ⟨rfl, hb⟩
  have hB2 : Below w.heap.size w w2 := below_then hB0 hz (by first | exact hb | (cases hb; exact Below.refl _ _))
  clear hb
  go_wp2
  go_ret2
  exact ⟨rfl, hB2⟩

set_option maxHeartbeats 1000000 in
theorem bandUnlink_ok (A : Option Addr) (c : Nat) (l : List BI) (i : Nat) (w : World) (hl : l.length ≤ 1000) (h : Bs w A l) (hi : i < l.length) (hlt : 1 ≤ l[i].live) :
    Calls Try.prog 20 #[.slice A l.length c, .int .i64 i] w fun e w' => ∃ v, e = .returned (.tuple #[v, .int .i64 0]) ∧ Own w' w.heap.size v (l.set i (unlB l[i])) ∧ Below w.heap.size w w' := by
  have hB0 := Below.refl w.heap.size w
  have hz := hB0.size
  go_enter Try.func20, Try.ntmps20
  go_wp2_with fail
  refine (changeUnl_ok A c l i _ hl h hi hlt).mono ?_
  rintro e w2 ⟨v, rfl, ho, hb⟩
  replace ho := ho.lower hz
  have hB2 := below_then hB0 hz hb
  clear hb
  go_wp2
  go_ret2
  exact ⟨_, rfl, ho, hB2⟩

set_option maxHeartbeats 1000000 in
theorem bandReset_range (A : Option Addr) (c : Nat) (l : List BI) (i : Int) (w : World) (hl : l.length ≤ 1000) (h : Bs w A l) (hi : i < 0 ∨ (l.length : Int) ≤ i) :
    Calls Try.prog 22 #[.slice A l.length c, .int .i64 i] w fun e w' => e = .returned (.tuple #[.slice none 0 0, .int .i64 2]) ∧ Below w.heap.size w w' := by
  have hB0 := Below.refl w.heap.size w
  have hz := hB0.size
  go_enter Try.func22, Try.ntmps22
  go_wp2_with fail
  refine (change_range A c l i _ _ hl hi).mono ?_
  rintro e w2 ⟨rfl, hb⟩
  have hB2 : Below w.heap.size w w2 := below_then hB0 hz (by first | exact hb | (cases hb; exact Below.refl _ _))
  clear hb
  go_wp2
  go_ret2
  exact ⟨rfl, hB2⟩

set_option maxHeartbeats 1000000 in
theorem bandReset_ok (A : Option Addr) (c : Nat) (l : List BI) (i : Nat) (w : World) (hl : l.length ≤ 1000) (h : Bs w A l) (hi : i < l.length) :
    Calls Try.prog 22 #[.slice A l.length c, .int .i64 i] w fun e w' => ∃ v, e = .returned (.tuple #[v, .int .i64 0]) ∧ Own w' w.heap.size v (l.set i (rstB l[i])) ∧ Below w.heap.size w w' := by
  have hB0 := Below.refl w.heap.size w
  have hz := hB0.size
  go_enter Try.func22, Try.ntmps22
  go_wp2_with fail
  refine (changeRst A c l i _ hl h hi).mono ?_
  rintro e w2 ⟨v, rfl, ho, hb⟩
  replace ho := ho.lower hz
  have hB2 := below_then hB0 hz hb
  clear hb
  go_wp2
  go_ret2
  exact ⟨_, rfl, ho, hB2⟩
end Go.Proofs.Ytmodhmcpljabcaa
