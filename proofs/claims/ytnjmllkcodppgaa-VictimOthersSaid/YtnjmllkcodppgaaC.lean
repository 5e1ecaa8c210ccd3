/- Contracts of tegularef16.Valid, of Free (both), Live, Same. -/
import Derived.Test.YtnjmllkcodppgaaB
namespace Go.Proofs.Ytnjmllkcodppgaa
open Go.RowKit

theorem get_some {l : List BI} {i : Nat} (h : i < l.length) : l[i]? = some l[i] := List.getElem?_eq_getElem h

def Quiet (w w' : World) : Prop := ∃ n, w' = w.drewN n
theorem Quiet.below {w w' : World} (h : Quiet w w') : Below w.heap.size w w' := by
  obtain ⟨n, rfl⟩ := h
  exact below_drewN (Below.refl _ _) n
theorem Quiet.refl (w : World) : Quiet w w := ⟨0, rfl⟩
theorem Quiet.step {w w' : World} (h : Quiet w w') (n : Nat) : Quiet w (w'.drewN n) := by
  obtain ⟨m, rfl⟩ := h
  exact ⟨m + n, by rw [World.drewN_drewN]⟩
theorem Quiet.step1 {w w' : World} (h : Quiet w w') : Quiet w w'.drew := h.step 1

set_option maxHeartbeats 1000000 in
theorem refValid (A : Option Addr) (c : Nat) (l : List BI) (size : Int) (w : World) (hl0 : l.length ≤ 9223372036854775807) (h : Bs w A l) :
    Calls Try.prog 14 #[.slice A l.length c, .int .i64 size] w fun e w' => e = .returned (.bool (vld l size)) ∧ Quiet w w' := by
  have hd := Lib.hid (show vld l size = (decide (1 ≤ l.length) && (decide (l.length ≤ 64) && (decide (1 ≤ size) && !l.any (bad size)))) from rfl)
  by_cases h1 : 1 ≤ l.length
  · by_cases h2 : l.length ≤ 64
    · by_cases h3 : 1 ≤ size
      · go_enter Try.func14, Try.ntmps14
        go_wp2
        go_loopw [5] (fun v w' => ∃ k : Nat, k ≤ l.length ∧ v = .int .i64 k ∧ Hid ((l.take k).any (bad size) = false) ∧ Quiet w w') (fun v _ => l.length - (intOf v).toNat)
        case atStart => exact ⟨0, Nat.zero_le _, rfl, rfl, Quiet.refl _⟩
        case round =>
          obtain ⟨k, hk, rfl, hn, ⟨n, rfl⟩⟩ := hrel
          by_cases hlt : k < l.length
          · obtain ⟨ad, rfl, c0, c1, c2, c3⟩ := h.at_ hlt
            cases hb : bad size l[k] with
            | true =>
              have hany := Lib.hid (any_of_get l (bad size) k hlt hb)
              unfold bad at hb
              by_cases b1 : l[k].live < 0
              · have d1 : decide (l[k].live < 0) = true := decide_eq_true b1
                clear hb b1
                go_wp2
                go_quiet (fail)
                go_wp2
                go_ret
                exact ⟨by rw [hd.out, hany.out]; simp, by repeat (first | exact Quiet.refl _ | apply Quiet.step)⟩
              · have d1 : decide (l[k].live < 0) = false := decide_eq_false b1
                by_cases b2 : l[k].used < l[k].live
                · have d2 : decide (l[k].used < l[k].live) = true := decide_eq_true b2
                  clear hb b1 b2
                  go_wp2
                  go_quiet (fail)
                  go_wp2
                  go_ret
                  exact ⟨by rw [hd.out, hany.out]; simp, by repeat (first | exact Quiet.refl _ | apply Quiet.step)⟩
                · have d2 : decide (l[k].used < l[k].live) = false := decide_eq_false b2
                  have d3 : decide (size < l[k].used) = true := by simpa [d1, d2] using hb
                  clear hb b1 b2
                  go_wp2
                  go_quiet (fail)
                  go_wp2
                  go_ret
                  exact ⟨by rw [hd.out, hany.out]; simp, by repeat (first | exact Quiet.refl _ | apply Quiet.step)⟩
            | false =>
              have hb' := Lib.hid hb
              unfold bad at hb
              simp only [Bool.or_eq_false_iff] at hb
              obtain ⟨d1, d2, d3⟩ := hb
              go_wp2
              go_quiet (fail)
              go_wp2
              go_roundw
              case rel => exact ⟨k + 1, by omega, by go_num, by show _ = _; rw [any_take_succ _ _ _ hlt, hn.out, hb'.out]; rfl, by repeat (first | exact Quiet.refl _ | apply Quiet.step)⟩
              case measure => simp [intOf]; omega
          · obtain rfl : k = l.length := by omega
            have hn' := Lib.hid hn.out
            clear hn
            go_wp2
            go_ret
            exact ⟨by have := hn'.out; rw [List.take_length] at this; rw [hd.out, this]; simp [*], by repeat (first | exact Quiet.refl _ | apply Quiet.step)⟩
      · go_enter Try.func14, Try.ntmps14
        go_wp2
        go_ret
        exact ⟨by rw [hd.out]; simp [*]; omega, Quiet.refl _⟩
    · go_enter Try.func14, Try.ntmps14
      go_wp2
      go_ret
      exact ⟨by rw [hd.out]; simp [*], Quiet.refl _⟩
  · go_enter Try.func14, Try.ntmps14
    go_wp2
    go_ret
    exact ⟨by rw [hd.out]; simp [*], Quiet.refl _⟩
end Go.Proofs.Ytnjmllkcodppgaa
