/- Contracts of Open (both). -/
import Derived.Test.YtmodhmcpljabcaaD
namespace Go.Proofs.Ytmodhmcpljabcaa
open Go.RowKit

def opStep (l : List BI) (size best : Int) (i : Nat) : Int :=
  if 0 < (l.getD i zb).used ∧ (l.getD i zb).used < size ∧ (best < 0 ∨ (l.getD best.toNat zb).age < (l.getD i zb).age) then (i : Int) else best
def openTo (l : List BI) (size : Int) : Nat → Int
  | 0 => -1
  | k + 1 => opStep l size (openTo l size k) k
def opn (l : List BI) (size : Int) : Int := if vld l size = true then openTo l size l.length else -1

theorem openTo_range (l : List BI) (size : Int) (k : Nat) : -1 ≤ openTo l size k ∧ openTo l size k < k := by
  induction k with
  | zero => simp [openTo]
  | succ k ih =>
    simp only [openTo, opStep]
    split <;> omega
theorem getD_eq {l : List BI} {i : Nat} (h : i < l.length) : l.getD i zb = l[i] := by
  rw [List.getD_eq_getElem?_getD, get_some h, Option.getD_some]

theorem openTo_take {l : List BI} {size : Int} {k : Nat} (h : k < l.length) (h1 : 0 < l[k].used) (h2 : l[k].used < size) (h3 : openTo l size k < 0) : openTo l size (k + 1) = k := by
  simp only [openTo, opStep, getD_eq h]
  rw [if_pos ⟨h1, h2, .inl h3⟩]
theorem openTo_newer {l : List BI} {size : Int} {k j : Nat} (h : k < l.length) (hj : j < l.length) (h1 : 0 < l[k].used) (h2 : l[k].used < size) (h3 : openTo l size k = j) (h4 : l[j].age < l[k].age) : openTo l size (k + 1) = k := by
  simp only [openTo, opStep, getD_eq h, h3, Int.toNat_natCast, getD_eq hj]
  rw [if_pos ⟨h1, h2, .inr h4⟩]
theorem openTo_older {l : List BI} {size : Int} {k j : Nat} (h : k < l.length) (hj : j < l.length) (h3 : openTo l size k = j) (h4 : ¬ l[j].age < l[k].age) : openTo l size (k + 1) = j := by
  simp only [openTo, opStep, getD_eq h, h3, Int.toNat_natCast, getD_eq hj]
  rw [if_neg (by rintro ⟨_, _, h | h⟩ <;> omega)]
theorem openTo_no1 {l : List BI} {size : Int} {k : Nat} (h : k < l.length) (h1 : ¬ 0 < l[k].used) : openTo l size (k + 1) = openTo l size k := by
  simp only [openTo, opStep, getD_eq h]
  rw [if_neg (by rintro ⟨q, _, _⟩; exact h1 q)]
theorem openTo_no2 {l : List BI} {size : Int} {k : Nat} (h : k < l.length) (h2 : ¬ l[k].used < size) : openTo l size (k + 1) = openTo l size k := by
  simp only [openTo, opStep, getD_eq h]
  rw [if_neg (by rintro ⟨_, q, _⟩; exact h2 q)]

set_option maxHeartbeats 2000000 in
theorem refOpen (A : Option Addr) (c : Nat) (l : List BI) (size : Int) (w : World) (hl : l.length ≤ 1000) (h : Bs w A l) :
    Calls Try.prog 15 #[.slice A l.length c, .int .i64 size] w fun e w' => e = .returned (.int .i64 (opn l size)) ∧ Quiet w w' := by
  have hl0 : l.length ≤ 9223372036854775807 := by omega
  cases hv : vld l size with
  | false =>
    have hv' := Lib.hid hv
    clear hv
    have hd : Hid (opn l size = -1) := by show _ = _; unfold opn; rw [hv'.out]; rfl
    go_enter Try.func15, Try.ntmps15
    go_wp2
    go_loopw [5, 6] (fun b v w' => b = .int .i64 (-1) ∧ v = .int .i64 0 ∧ w' = w) (fun _ _ _ => 0)
    case atStart => exact ⟨rfl, rfl, rfl⟩
    case round =>
      obtain ⟨rfl, rfl, rfl⟩ := hrel
      go_wp2_with fail
      refine (refValid A c l size _ hl0 h).mono ?_
      rintro e w1 ⟨rfl, ⟨n, rfl⟩⟩
      rw [hv'.out]
      go_wp2
      go_ret
      exact ⟨by rw [hd.out]; rfl, ⟨n, rfl⟩⟩
  | true =>
    have hv' := Lib.hid hv
    clear hv
    have hd : Hid (opn l size = openTo l size l.length) := by show _ = _; unfold opn; rw [if_pos hv'.out]
    go_enter Try.func15, Try.ntmps15
    go_wp2
    go_loopw [5, 6] (fun b v w' => ∃ k : Nat, k ≤ l.length ∧ v = .int .i64 k ∧ b = .int .i64 (openTo l size k) ∧ Quiet w w') (fun _ v _ => l.length - (intOf v).toNat)
    case atStart => exact ⟨0, Nat.zero_le _, rfl, rfl, Quiet.refl _⟩
    case round =>
      obtain ⟨k, hk, rfl, rfl, ⟨n, rfl⟩⟩ := hrel
      by_cases hlt : k < l.length
      · obtain ⟨ad, rfl, c0, c1, c2, c3⟩ := h.at_ hlt
        have hr := openTo_range l size k
        by_cases b1 : 0 < l[k].used
        · have d1 : decide (0 < l[k].used) = true := decide_eq_true b1
          by_cases b2 : l[k].used < size
          · have d2 : decide (l[k].used < size) = true := decide_eq_true b2
            by_cases b3 : openTo l size k < 0
            · have d3 : decide (openTo l size k < 0) = true := decide_eq_true b3
              have hs := Lib.hid (openTo_take hlt b1 b2 b3)
              clear b1 b2 b3
              generalize openTo l size k = b at *
              go_wp2_with fail
              refine (refValid (some ad) c l size _ hl0 (h.below (below_drewN (Below.refl _ _) _))).mono ?_
              rintro e w1 ⟨rfl, ⟨n1, rfl⟩⟩
              rw [hv'.out]
              go_wp2
              go_quiet (fail)
              go_wp2
              go_roundw
              case rel => exact ⟨k + 1, by omega, by go_num, by rw [hs.out], by repeat (first | exact Quiet.refl _ | apply Quiet.step)⟩
              case measure => simp [intOf]; omega
            · obtain ⟨j, hj⟩ : ∃ j : Nat, openTo l size k = j := ⟨(openTo l size k).toNat, by omega⟩
              have hjl : j < l.length := by omega
              obtain ⟨ad', had, f0, f1, f2, f3⟩ := h.at_ hjl
              cases had
              have d3 : decide ((j : Int) < 0) = false := by simp
              by_cases b4 : l[j].age < l[k].age
              · have d4 : decide (l[j].age < l[k].age) = true := decide_eq_true b4
                have hs := Lib.hid (openTo_newer hlt hjl b1 b2 hj b4)
                rw [hj] at hr ⊢
                clear hj b1 b2 b3 b4
                go_wp2_with fail
                refine (refValid (some ad) c l size _ hl0 (h.below (below_drewN (Below.refl _ _) _))).mono ?_
                rintro e w1 ⟨rfl, ⟨n1, rfl⟩⟩
                rw [hv'.out]
                go_wp2
                go_quiet (fail)
                go_wp2
                go_roundw
                case rel => exact ⟨k + 1, by omega, by go_num, by rw [hs.out], by repeat (first | exact Quiet.refl _ | apply Quiet.step)⟩
                case measure => simp [intOf]; omega
              · have d4 : decide (l[j].age < l[k].age) = false := decide_eq_false b4
                have hs := Lib.hid (openTo_older hlt hjl hj b4)
                rw [hj] at hr ⊢
                clear hj b1 b2 b3 b4
                go_wp2_with fail
                refine (refValid (some ad) c l size _ hl0 (h.below (below_drewN (Below.refl _ _) _))).mono ?_
                rintro e w1 ⟨rfl, ⟨n1, rfl⟩⟩
                rw [hv'.out]
                go_wp2
                go_quiet (fail)
                go_wp2
                go_roundw
                case rel => exact ⟨k + 1, by omega, by go_num, by rw [hs.out], by repeat (first | exact Quiet.refl _ | apply Quiet.step)⟩
                case measure => simp [intOf]; omega
          · have d2 : decide (l[k].used < size) = false := decide_eq_false b2
            have hs := Lib.hid (openTo_no2 (size := size) hlt b2)
            clear b1 b2
            generalize openTo l size k = b at *
            go_wp2_with fail
            refine (refValid (some ad) c l size _ hl0 (h.below (below_drewN (Below.refl _ _) _))).mono ?_
            rintro e w1 ⟨rfl, ⟨n1, rfl⟩⟩
            rw [hv'.out]
            go_wp2
            go_quiet (fail)
            go_wp2
            go_roundw
            case rel => exact ⟨k + 1, by omega, by go_num, by rw [hs.out], by repeat (first | exact Quiet.refl _ | apply Quiet.step)⟩
            case measure => simp [intOf]; omega
        · have d1 : decide (0 < l[k].used) = false := decide_eq_false b1
          have hs := Lib.hid (openTo_no1 (size := size) hlt b1)
          clear b1
          generalize openTo l size k = b at *
          go_wp2_with fail
          refine (refValid (some ad) c l size _ hl0 (h.below (below_drewN (Below.refl _ _) _))).mono ?_
          rintro e w1 ⟨rfl, ⟨n1, rfl⟩⟩
          rw [hv'.out]
          go_wp2
          go_quiet (fail)
          go_wp2
          go_roundw
          case rel => exact ⟨k + 1, by omega, by go_num, by rw [hs.out], by repeat (first | exact Quiet.refl _ | apply Quiet.step)⟩
          case measure => simp [intOf]; omega
      · obtain rfl : k = l.length := by omega
        generalize openTo l size l.length = b at *
        go_wp2_with fail
        refine (refValid A c l size _ hl0 (h.below (below_drewN (Below.refl _ _) _))).mono ?_
        rintro e w1 ⟨rfl, ⟨n1, rfl⟩⟩
        rw [hv'.out]
        go_wp2
        go_ret
        exact ⟨by rw [hd.out]; rfl, by repeat (first | exact Quiet.refl _ | apply Quiet.step)⟩
end Go.Proofs.Ytmodhmcpljabcaa
