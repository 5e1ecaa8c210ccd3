/- Contract of band.Open. -/
import Derived.Test.YtmodhmcpljabcaaE
namespace Go.Proofs.Ytmodhmcpljabcaa
open Go.RowKit
set_option linter.unusedVariables false

/-- the closure 'newer', one contract for each answer -/
theorem newerNone (po pl : Addr) (b : Int) (i : Nat) (w : World) (ho : w.cell? po = some (.int .i64 b)) (hb : b < 0) :
    Calls Try.prog 27 #[.int .i64 i, .pointer (some po), .pointer (some pl)] w fun e w' => e = .returned (.bool true) ∧ Quiet w w' := by
  have d : decide (b < 0) = true := decide_eq_true hb
  clear hb
  go_enter Try.func27, Try.ntmps27
  go_wp2
  go_quiet (fail)
  go_wp2
  go_ret
  exact ⟨rfl, by repeat (first | exact Quiet.refl _ | apply Quiet.step)⟩
theorem newerSome (l : List BI) (A : Option Addr) (c : Nat) (po pl : Addr) (j i : Nat) (w : World) (h : Bs w A l) (hi : i < l.length) (hj : j < l.length)
    (ho : w.cell? po = some (.int .i64 j)) (hp : w.cell? pl = some (.slice A l.length c)) :
    Calls Try.prog 27 #[.int .i64 i, .pointer (some po), .pointer (some pl)] w fun e w' => e = .returned (.bool (decide (l[j].age < l[i].age))) ∧ Quiet w w' := by
  have d : decide ((j : Int) < 0) = false := by simp
  obtain ⟨ad, rfl, c0, c1, c2, c3⟩ := h.at_ hi
  obtain ⟨ad', had, f0, f1, f2, f3⟩ := h.at_ hj
  cases had
  generalize l[j].age = x at *
  generalize l[i].age = y at *
  go_enter Try.func27, Try.ntmps27
  go_wp2
  go_quiet (fail)
  go_wp2
  go_ret
  exact ⟨rfl, by repeat (first | exact Quiet.refl _ | apply Quiet.step)⟩
/-- the captured 'open' in its block -/
def One (w : World) (g : Nat) (b : Int) : Prop := w.heap[g]? = some (.cells #[.int .i64 b] 3 (0, 0))
theorem One.cell {w : World} {g : Nat} {b : Int} (h : One w g b) : w.cell? ⟨g, 0, none⟩ = some (.int .i64 b) := cell_of_one h
theorem One.free {w : World} {g : Nat} {b : Int} (h : One w g b) : w.frozen? ⟨g, 0, none⟩ = false := free_of_one h
theorem One.below {w w' : World} {g : Nat} {b : Int} (h : One w g b) (hb : Below w.heap.size w w') : One w' g b := (hb.block g (lt_of_block h)).trans h

set_option maxHeartbeats 4000000 in
theorem bandOpen (A : Option Addr) (c : Nat) (l : List BI) (size : Int) (w : World) (hl : l.length ≤ 1000) (h : Bs w A l) :
    Calls Try.prog 14 #[.slice A l.length c, .int .i64 size] w fun e w' => e = .returned (.int .i64 (opn l size)) ∧ Below w.heap.size w w' := by
  have hl0 : l.length ≤ 9223372036854775807 := by omega
  have hbx : Below w.heap.size w (w.alloc (.cells #[.slice A l.length c] 22)) := (Below.refl _ _).alloc (Nat.le_refl _) _
  cases hv : vld l size with
  | false =>
    have hv' := Lib.hid hv
    clear hv
    have hd : Hid (opn l size = -1) := by show _ = _; unfold opn; rw [hv'.out]; rfl
    go_enter Try.func14, Try.ntmps14
    go_wp2_with fail
    refine (bandValid A c l size _ hl (h.below hbx)).mono ?_
    rintro e w1 ⟨rfl, hb1⟩
    rw [hv'.out]
    go_wp2
    go_ret
    exact ⟨by rw [hd.out]; rfl, below_then hbx (by simp) hb1⟩
  | true =>
    have hv' := Lib.hid hv
    clear hv
    have hd : Hid (opn l size = openTo l size l.length) := by show _ = _; unfold opn; rw [if_pos hv'.out]
    have hc0 : (w.alloc (.cells #[.slice A l.length c] 22)).cell? ⟨w.heap.size, 0, none⟩ = some (.slice A l.length c) := by go_simp
    go_enter Try.func14, Try.ntmps14
    go_wp2_with fail
    refine (bandValid A c l size _ hl (h.below hbx)).mono ?_
    rintro e w1 ⟨rfl, hb1⟩
    rw [hv'.out]
    have hc1 := cell_below hb1 hc0
    have hB1 := below_then hbx (by simp) hb1
    have hz1 : w.heap.size < w1.heap.size := by have := hb1.size; simp at this; omega
    clear hb1 hc0
    have hc1b := fun o => cell_alloc hc1 o
    go_wp2
    have hO : One (w1.alloc (.cells #[.int .i64 (-1)] 3)) w1.heap.size (-1) := heap_alloc_new _ _
    have hB2 := hB1.alloc hB1.size (.cells #[.int .i64 (-1)] 3)
    have hc2 := cell_alloc hc1 (.cells #[.int .i64 (-1)] 3)
    clear hc1 hc1b hB1
    generalize w1.alloc (.cells #[.int .i64 (-1)] 3) = W2 at *
    generalize w1.heap.size = g at *
    clear w1
    go_loopw [16] (fun v wr => ∃ k : Nat, k ≤ l.length ∧ v = .int .i64 k ∧ One wr g (openTo l size k) ∧ wr.cell? ⟨w.heap.size, 0, none⟩ = some (.slice A l.length c) ∧ Below w.heap.size w wr) (fun v _ => l.length - (intOf v).toNat)
    case atStart => exact ⟨0, Nat.zero_le _, rfl, hO, hc2, hB2⟩
    case round =>
      clear hO hc2 hB2
      obtain ⟨k, hk, rfl, hO, hc2, hB2⟩ := hrel
      by_cases hlt : k < l.length
      · obtain ⟨ad, rfl, c0, c1, c2, c3⟩ := (h.below hB2).at_ hlt
        have hr := openTo_range l size k
        have hoc := hO.cell
        have hof := hO.free
        have hgl := lt_of_block hO
        have hz := hB2.size
        by_cases b1 : 0 < l[k].used
        · have d1 : decide (0 < l[k].used) = true := decide_eq_true b1
          by_cases b2 : l[k].used < size
          · have d2 : decide (l[k].used < size) = true := decide_eq_true b2
            by_cases b3 : openTo l size k < 0
            · have hs := Lib.hid (openTo_take hlt b1 b2 b3)
              clear b1 b2
              generalize openTo l size k = b at *
              go_wp2_with fail
              refine (newerNone _ _ b k _ (cell_alloc hoc _) b3).mono ?_
              rintro e w1 ⟨rfl, hq⟩
              have hb1 := below_then ((Below.refl _ _).alloc (Nat.le_refl _) _) (by simp) hq.below
              have hO1 := hO.below hb1
              have hc21 := cell_below hb1 hc2
              have hB21 := below_then hB2 hz hb1
              have hz2 := hB21.size
              have hoc1 := hO1.cell
              have hof1 := hO1.free
              clear hq hb1 hO hoc hof hc2 hB2 hz
              go_wp2
              go_roundw
              case rel => exact ⟨k + 1, by omega, by go_num, by rw [hs.out]; exact one_setCell hO1, (World.cell?_setCell_other _ _ _ _ (by intro e; cases e; omega)).trans hc21, hB21.setCell (by show _ ≤ g; omega) _⟩
              case measure => simp [intOf]; omega
            · obtain ⟨j, hj⟩ : ∃ j : Nat, openTo l size k = j := ⟨(openTo l size k).toNat, by omega⟩
              have hjl : j < l.length := by omega
              by_cases b4 : l[j].age < l[k].age
              · have d4 := Lib.hid (show decide (l[j].age < l[k].age) = true from decide_eq_true b4)
                have hs := Lib.hid (openTo_newer hlt hjl b1 b2 hj b4)
                rw [hj] at hO hoc hr
                clear hj b1 b2 b3 b4
                go_wp2_with fail
                refine (newerSome l (some ad) c _ _ j k _ (h.below (hB2.alloc hz _)) hlt hjl (cell_alloc hoc _) (cell_alloc hc2 _)).mono ?_
                rintro e w1 ⟨rfl, hq⟩
                have hb1 := below_then ((Below.refl _ _).alloc (Nat.le_refl _) _) (by simp) hq.below
                have hO1 := hO.below hb1
                have hc21 := cell_below hb1 hc2
                have hB21 := below_then hB2 hz hb1
                have hz2 := hB21.size
                have hoc1 := hO1.cell
                have hof1 := hO1.free
                clear hq hb1 hO hoc hof hc2 hB2 hz
                rw [d4.out]
                go_wp2
                go_roundw
                case rel => exact ⟨k + 1, by omega, by go_num, by rw [hs.out]; exact one_setCell hO1, (World.cell?_setCell_other _ _ _ _ (by intro e; cases e; omega)).trans hc21, hB21.setCell (by show _ ≤ g; omega) _⟩
                case measure => simp [intOf]; omega
              · have d4 := Lib.hid (show decide (l[j].age < l[k].age) = false from decide_eq_false b4)
                have hs := Lib.hid (openTo_older (size := size) hlt hjl hj b4)
                rw [hj] at hO hoc hr
                clear hj b1 b2 b3 b4
                go_wp2_with fail
                refine (newerSome l (some ad) c _ _ j k _ (h.below (hB2.alloc hz _)) hlt hjl (cell_alloc hoc _) (cell_alloc hc2 _)).mono ?_
                rintro e w1 ⟨rfl, hq⟩
                have hb1 := below_then ((Below.refl _ _).alloc (Nat.le_refl _) _) (by simp) hq.below
                have hO1 := hO.below hb1
                have hc21 := cell_below hb1 hc2
                have hB21 := below_then hB2 hz hb1
                have hz2 := hB21.size
                have hoc1 := hO1.cell
                have hof1 := hO1.free
                clear hq hb1 hO hoc hof hc2 hB2 hz
                rw [d4.out]
                go_wp2
                go_roundw
                case rel => exact ⟨k + 1, by omega, by go_num, by rw [hs.out]; exact hO1, hc21, hB21⟩
                case measure => simp [intOf]; omega
          · have d2 : decide (l[k].used < size) = false := decide_eq_false b2
            have hs := Lib.hid (openTo_no2 (size := size) hlt b2)
            clear b1 b2
            generalize openTo l size k = b at *
            go_wp2
            go_roundw
            case rel => exact ⟨k + 1, by omega, by go_num, by rw [hs.out]; exact hO.below ((Below.refl _ _).alloc (Nat.le_refl _) _), cell_alloc hc2 _, hB2.alloc hz _⟩
            case measure => simp [intOf]; omega
        · have d1 : decide (0 < l[k].used) = false := decide_eq_false b1
          have hs := Lib.hid (openTo_no1 (size := size) hlt b1)
          clear b1
          generalize openTo l size k = b at *
          go_wp2
          go_roundw
          case rel => exact ⟨k + 1, by omega, by go_num, by rw [hs.out]; exact hO.below ((Below.refl _ _).alloc (Nat.le_refl _) _), cell_alloc hc2 _, hB2.alloc hz _⟩
          case measure => simp [intOf]; omega
      · obtain rfl : k = l.length := by omega
        have hoc := hO.cell
        go_wp2
        go_ret
        exact ⟨by rw [hd.out]; rfl, hB2⟩
end Go.Proofs.Ytmodhmcpljabcaa
