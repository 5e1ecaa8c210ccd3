/- Contracts of band.Valid and what it calls. -/
import Derived.Test.YtnjmllkcodppgaaA
namespace Go.Proofs.Ytnjmllkcodppgaa
open Go.RowKit

set_option maxHeartbeats 400000 in
theorem valid1 (u l a r size : Int) (p : Addr) (w : World) (hp : w.cell? p = some (.int .i64 size)) :
    Calls Try.prog 28 #[.agg #[.int .i64 u, .int .i64 l, .int .u64 a, .int .u64 r], .pointer (some p)] w fun e w' => e = .returned (.bool (bad size ⟨u, l, a, r⟩)) ∧ Below w.heap.size w w' := by
  have hp2 := fun o => cell_alloc hp o
  have hd := Lib.hid (show bad size ⟨u, l, a, r⟩ = (decide (l < 0) || (decide (u < l) || decide (size < u))) from rfl)
  go_enter Try.func28, Try.ntmps28
  go_wp2
  all_goals go_ret
  all_goals rw [hd.out]
  all_goals exact ⟨by simp [*, Bool.or_assoc], (Below.refl _ _).alloc (Nat.le_refl _) _⟩

theorem any_take_succ (l : List BI) (f : BI → Bool) (k : Nat) (h : k < l.length) : (l.take (k + 1)).any f = ((l.take k).any f || f l[k]) := by
  rw [List.take_succ_eq_append_getElem h, List.any_append]; simp
theorem any_of_get (l : List BI) (f : BI → Bool) (k : Nat) (h : k < l.length) (hf : f l[k] = true) : l.any f = true := List.any_eq_true.2 ⟨l[k], List.getElem_mem h, hf⟩

def AnyIx (b : Bool) (w : World) (e : Ending) (w' : World) : Prop := (∃ r : Int, e = .returned (.int .i64 r) ∧ decide (0 ≤ r) = b) ∧ Below w.heap.size w w'

set_option maxHeartbeats 1000000 in
theorem indexFunc (A : Option Addr) (c : Nat) (l : List BI) (size : Int) (p : Addr) (w : World) (hl : l.length ≤ 1000) (h : Bs w A l) (hp : w.cell? p = some (.int .i64 size)) :
    Calls Try.prog 29 #[.slice A l.length c, .func (.func 28) #[] #[.pointer (some p)]] w (AnyIx (l.any (bad size)) w) := by
  have hl0 : l.length ≤ 9223372036854775807 := by omega
  go_enter Try.func29, Try.ntmps29
  go_wp2
  go_loopw [8] (fun v w' => ∃ k : Nat, k ≤ l.length ∧ v = .int .i64 k ∧ Hid ((l.take k).any (bad size) = false) ∧ Below w.heap.size w w') (fun v _ => l.length - (intOf v).toNat)
  case atStart => exact ⟨0, Nat.zero_le _, rfl, rfl, Below.refl _ _⟩
  case round =>
    obtain ⟨k, hk, rfl, hn, hB⟩ := hrel
    by_cases hlt : k < l.length
    · obtain ⟨ad, rfl, c0, c1, c2, c3⟩ := (h.below hB).at_ hlt
      have hp1 := cell_below hB hp
      cases hb : bad size l[k] with
      | true =>
        have hany := Lib.hid (any_of_get l (bad size) k hlt hb)
        have hb' := Lib.hid hb
        clear hb
        go_wp2_with fail
        refine (valid1 _ _ _ _ size p _ hp1).mono ?_
        rintro e w1 ⟨rfl, hb1⟩
        have e1 : bad size ⟨l[k].used, l[k].live, l[k].age, l[k].wear⟩ = true := hb'.out
        rw [e1]
        clear e1
        go_wp2
        go_ret
        exact ⟨⟨_, rfl, by rw [hany.out]; simp⟩, below_then hB hB.size hb1⟩
      | false =>
        have hb' := Lib.hid hb
        clear hb
        go_wp2_with fail
        refine (valid1 _ _ _ _ size p _ hp1).mono ?_
        rintro e w1 ⟨rfl, hb1⟩
        have e1 : bad size ⟨l[k].used, l[k].live, l[k].age, l[k].wear⟩ = false := hb'.out
        rw [e1]
        clear e1
        go_wp2
        go_roundw
        case rel => exact ⟨k + 1, by omega, by go_num, by show _ = _; rw [any_take_succ _ _ _ hlt, hn.out, hb'.out]; rfl, below_then hB hB.size hb1⟩
        case measure => simp [intOf]; omega
    · obtain rfl : k = l.length := by omega
      have hn' := Lib.hid hn.out
      clear hn
      go_wp2
      go_ret
      exact ⟨⟨_, rfl, by have := hn'.out; rw [List.take_length] at this; rw [this]; rfl⟩, hB⟩

theorem containsFunc (A : Option Addr) (c : Nat) (l : List BI) (size : Int) (p : Addr) (w : World) (hl : l.length ≤ 1000) (h : Bs w A l) (hp : w.cell? p = some (.int .i64 size)) :
    Calls Try.prog 27 #[.slice A l.length c, .func (.func 28) #[] #[.pointer (some p)]] w fun e w' => e = .returned (.bool (l.any (bad size))) ∧ Below w.heap.size w w' := by
  go_enter Try.func27, Try.ntmps27
  go_wp2_with fail
  refine (indexFunc A c l size p _ hl h hp).mono ?_
  rintro e w1 ⟨⟨r, rfl, hr⟩, hb1⟩
  have hr' := Lib.hid hr
  clear hr
  go_wp2
  go_ret
  exact ⟨by rw [← hr'.out]; rfl, hb1⟩

set_option maxHeartbeats 400000 in
theorem bandValid (A : Option Addr) (c : Nat) (l : List BI) (size : Int) (w : World) (hl : l.length ≤ 1000) (h : Bs w A l) :
    Calls Try.prog 23 #[.slice A l.length c, .int .i64 size] w fun e w' => e = .returned (.bool (vld l size)) ∧ Below w.heap.size w w' := by
  have hl0 : l.length ≤ 9223372036854775807 := by omega
  have hd := Lib.hid (show vld l size = (decide (1 ≤ l.length) && (decide (l.length ≤ 64) && (decide (1 ≤ size) && !l.any (bad size)))) from rfl)
  by_cases h1 : 1 ≤ l.length
  · by_cases h2 : l.length ≤ 64
    · by_cases h3 : 1 ≤ size
      · go_enter Try.func23, Try.ntmps23
        go_wp2_with fail
        have hcell : (w.alloc (.cells #[.int .i64 size] 3)).cell? ⟨w.heap.size, 0, none⟩ = some (.int .i64 size) := by go_simp
        refine (containsFunc A c l size _ _ hl (h.below ((Below.refl _ _).alloc (Nat.le_refl _) _)) hcell).mono ?_
        rintro e w1 ⟨rfl, hb1⟩
        go_wp2
        go_ret
        exact ⟨by rw [hd.out]; simp [*], below_then ((Below.refl _ _).alloc (Nat.le_refl _) _) (by simp) hb1⟩
      · go_enter Try.func23, Try.ntmps23
        go_wp2
        go_ret
        exact ⟨by rw [hd.out]; simp [*]; omega, (Below.refl _ _).alloc (Nat.le_refl _) _⟩
    · go_enter Try.func23, Try.ntmps23
      go_wp2
      go_ret
      exact ⟨by rw [hd.out]; simp [*], (Below.refl _ _).alloc (Nat.le_refl _) _⟩
  · go_enter Try.func23, Try.ntmps23
    go_wp2
    go_ret
    exact ⟨by rw [hd.out]; simp [*], (Below.refl _ _).alloc (Nat.le_refl _) _⟩
end Go.Proofs.Ytnjmllkcodppgaa
