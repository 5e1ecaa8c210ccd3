/- Contracts of Free (both), tegularef16.Live and Same. -/
import Derived.Test.YtmodhmcpljabcaaC
namespace Go.Proofs.Ytmodhmcpljabcaa
open Go.RowKit

theorem free_succ (l : List BI) (k : Nat) (h : k < l.length) : freeN (l.take (k + 1)) = freeN (l.take k) + if l[k].used = 0 then 1 else 0 := by
  unfold freeN
  rw [List.take_succ_eq_append_getElem h, List.filter_append, List.length_append]
  by_cases e : l[k].used = 0 <;> simp [e]
theorem free_le (l : List BI) : freeN l ≤ l.length := List.length_filter_le _ _
theorem ret_int {k : IntKind} {a b : Int} (h : a = b) : Ending.returned (.int k a) = .returned (.int k b) := by rw [h]

set_option maxHeartbeats 1000000 in
theorem bandFree (A : Option Addr) (c : Nat) (l : List BI) (w : World) (hl : l.length ≤ 1000) (h : Bs w A l) :
    Calls Try.prog 12 #[.slice A l.length c] w fun e w' => e = .returned (.int .i64 (freeN l)) ∧ Below w.heap.size w w' := by
  have hl0 : l.length ≤ 9223372036854775807 := by omega
  go_enter Try.func12, Try.ntmps12
  go_wp2
  go_loopw [3, 8] (fun n v w' => ∃ k : Nat, k ≤ l.length ∧ v = .int .i64 k ∧ n = .int .i64 (freeN (l.take k)) ∧ Below w.heap.size w w') (fun _ v _ => l.length - (intOf v).toNat)
  case atStart => exact ⟨0, Nat.zero_le _, rfl, rfl, Below.refl _ _⟩
  case round =>
    obtain ⟨k, hk, rfl, rfl, hB⟩ := hrel
    by_cases hlt : k < l.length
    · obtain ⟨ad, rfl, c0, c1, c2, c3⟩ := (h.below hB).at_ hlt
      have hs := Lib.hid (free_succ l k hlt)
      have hq : (freeN (l.take k) : Int) ≤ 1000 := by
        have h1 := free_le (l.take k)
        have h2 := List.length_take_le k l
        omega
      have hB2 := hB.size
      by_cases h0 : l[k].used = 0
      · have h0' := Lib.hid h0
        have d0 : (l[k].used == 0) = true := by simp [h0]
        clear h0
        go_wp2
        go_roundw
        case rel => exact ⟨k + 1, by omega, by go_num, by rw [hs.out, if_pos h0'.out]; go_num, hB.alloc hB2 _⟩
        case measure => simp [intOf]; omega
      · have d0 : (l[k].used == 0) = false := by simp [h0]
        have h0' := Lib.hid h0
        clear h0
        go_wp2
        go_roundw
        case rel => exact ⟨k + 1, by omega, by go_num, by rw [hs.out, if_neg h0'.out]; rfl, hB.alloc hB2 _⟩
        case measure => simp [intOf]; omega
    · obtain rfl : k = l.length := by omega
      go_wp2
      go_ret
      exact ⟨ret_int (by rw [List.take_length]), hB⟩

set_option maxHeartbeats 1000000 in
theorem refFree (A : Option Addr) (c : Nat) (l : List BI) (w : World) (hl : l.length ≤ 1000) (h : Bs w A l) :
    Calls Try.prog 13 #[.slice A l.length c] w fun e w' => e = .returned (.int .i64 (freeN l)) ∧ w = w' := by
  have hl0 : l.length ≤ 9223372036854775807 := by omega
  go_enter Try.func13, Try.ntmps13
  go_wp2
  go_loop [3, 4] (fun n v => ∃ k : Nat, k ≤ l.length ∧ v = .int .i64 k ∧ n = .int .i64 (freeN (l.take k))) (fun _ v => l.length - (intOf v).toNat)
  case atStart => exact ⟨0, Nat.zero_le _, rfl, rfl⟩
  case round =>
    obtain ⟨k, hk, rfl, rfl⟩ := hrel
    by_cases hlt : k < l.length
    · obtain ⟨ad, rfl, c0, c1, c2, c3⟩ := h.at_ hlt
      have hs := Lib.hid (free_succ l k hlt)
      have hq : (freeN (l.take k) : Int) ≤ 1000 := by
        have h1 := free_le (l.take k)
        have h2 := List.length_take_le k l
        omega
      by_cases h0 : l[k].used = 0
      · have h0' := Lib.hid h0
        have d0 : (l[k].used == 0) = true := by simp [h0]
        clear h0
        go_wp2
        go_round
        case rel => exact ⟨k + 1, by omega, by go_num, by rw [hs.out, if_pos h0'.out]; go_num⟩
        case measure => simp [intOf]; omega
      · have d0 : (l[k].used == 0) = false := by simp [h0]
        have h0' := Lib.hid h0
        clear h0
        go_wp2
        go_round
        case rel => exact ⟨k + 1, by omega, by go_num, by rw [hs.out, if_neg h0'.out]; rfl⟩
        case measure => simp [intOf]; omega
    · obtain rfl : k = l.length := by omega
      go_wp2
      go_ret
      exact ⟨ret_int (by first | rfl | rw [List.take_length]), rfl⟩

def liveTo (l : List BI) : Nat → Int
  | 0 => 0
  | k + 1 => wrap64 (liveTo l k + (l.getD k zb).live)

set_option maxHeartbeats 1000000 in
theorem refLive (A : Option Addr) (c : Nat) (l : List BI) (w : World) (hl : l.length ≤ 1000) (h : Bs w A l) :
    Calls Try.prog 24 #[.slice A l.length c] w fun e w' => e = .returned (.int .i64 (liveTo l l.length)) ∧ w = w' := by
  have hl0 : l.length ≤ 9223372036854775807 := by omega
  go_enter Try.func24, Try.ntmps24
  go_wp2
  go_loop [3, 4] (fun n v => ∃ k : Nat, k ≤ l.length ∧ v = .int .i64 k ∧ n = .int .i64 (liveTo l k)) (fun _ v => l.length - (intOf v).toNat)
  case atStart => exact ⟨0, Nat.zero_le _, rfl, rfl⟩
  case round =>
    obtain ⟨k, hk, rfl, rfl⟩ := hrel
    by_cases hlt : k < l.length
    · obtain ⟨ad, rfl, c0, c1, c2, c3⟩ := h.at_ hlt
      have hs := Lib.hid (show liveTo l (k + 1) = wrap64 (liveTo l k + l[k].live) from by
        rw [liveTo, List.getD_eq_getElem?_getD, get_some hlt, Option.getD_some])
      generalize l[k].live = x at *
      go_wp2
      go_round
      case rel => exact ⟨k + 1, by omega, by go_num, by rw [hs.out]⟩
      case measure => simp [intOf]; omega
    · obtain rfl : k = l.length := by omega
      go_wp2
      go_ret
      exact ⟨rfl, rfl⟩

def beqB (a b : BI) : Bool := a.used == b.used && (a.live == b.live && (a.age == b.age && a.wear == b.wear))
theorem run_eql_bands (a b : BI) (w : World) : (binOp .eql 35 (.agg #[.int .i64 a.used, .int .i64 a.live, .int .u64 a.age, .int .u64 a.wear]) (.agg #[.int .i64 b.used, .int .i64 b.live, .int .u64 b.age, .int .u64 b.wear])).run Try.prog w = .ok (.bool (beqB a b)) w := by
  unfold beqB
  cases h0 : (a.used == b.used) <;> cases h1 : (a.live == b.live) <;> cases h2 : (a.age == b.age) <;> cases h3 : (a.wear == b.wear) <;> go_simp
theorem run_neq_bands (a b : BI) (w : World) : (binOp .neq 35 (.agg #[.int .i64 a.used, .int .i64 a.live, .int .u64 a.age, .int .u64 a.wear]) (.agg #[.int .i64 b.used, .int .i64 b.live, .int .u64 b.age, .int .u64 b.wear])).run Try.prog w = .ok (.bool (!beqB a b)) w := by
  unfold beqB
  cases h0 : (a.used == b.used) <;> cases h1 : (a.live == b.live) <;> cases h2 : (a.age == b.age) <;> cases h3 : (a.wear == b.wear) <;> go_simp
theorem beqB_iff (a b : BI) : beqB a b = true ↔ a = b := by
  unfold beqB
  cases a; cases b
  simp
def sameL : List BI → List BI → Bool
  | [], [] => true
  | a :: l, b :: m => beqB a b && sameL l m
  | _, _ => false
theorem sameL_iff (l m : List BI) : sameL l m = true ↔ l = m := by
  induction l generalizing m with
  | nil => cases m <;> simp [sameL]
  | cons a l ih => cases m with
    | nil => simp [sameL]
    | cons b m => simp [sameL, beqB_iff, ih]
theorem sameL_false (l m : List BI) (k : Nat) (h1 : k < l.length) (h2 : k < m.length) (h : beqB l[k] m[k] = false) : sameL l m = false := by
  rw [Bool.eq_false_iff]
  intro e
  have e := (sameL_iff l m).1 e
  subst e
  have : beqB l[k] l[k] = true := (beqB_iff _ _).2 rfl
  rw [this] at h
  cases h

set_option maxHeartbeats 1000000 in
theorem refSame (A : Option Addr) (c : Nat) (l : List BI) (A' : Option Addr) (c' : Nat) (m : List BI) (w : World) (hl : l.length ≤ 1000) (hm : m.length ≤ 1000) (h : Bs w A l) (h' : Bs w A' m) :
    Calls Try.prog 19 #[.slice A l.length c, .slice A' m.length c'] w fun e w' => e = .returned (.bool (sameL l m)) ∧ Quiet w w' := by
  have hl0 : l.length ≤ 9223372036854775807 := by omega
  have hm0 : m.length ≤ 9223372036854775807 := by omega
  by_cases hlen : l.length = m.length
  · have hlen' := Lib.hid hlen
    have hbn : ((l.length : Int) != (m.length : Int)) = false := by simp [hlen]
    have hbn2 : (l.length != m.length) = false := by simp [hlen]
    clear hlen
    go_enter Try.func19, Try.ntmps19
    go_wp2
    go_loopw [5] (fun v w' => ∃ k : Nat, k ≤ l.length ∧ v = .int .i64 k ∧ Hid (∀ j : Nat, j < k → l[j]? = m[j]?) ∧ Quiet w w') (fun v _ => l.length - (intOf v).toNat)
    case atStart => exact ⟨0, Nat.zero_le _, rfl, fun j hj => absurd hj (Nat.not_lt_zero j), Quiet.refl _⟩
    case round =>
      obtain ⟨k, hk, rfl, hn, ⟨n, rfl⟩⟩ := hrel
      by_cases hlt : k < l.length
      · have hlt' : k < m.length := by have := hlen'.out; omega
        obtain ⟨ad, rfl, c0, c1, c2, c3⟩ := h.at_ hlt
        obtain ⟨ad', rfl, e0, e1, e2, e3⟩ := h'.at_ hlt'
        have hq := fun W => run_neq_bands l[k] m[k] W
        cases hb : beqB l[k] m[k] with
        | true =>
          have hb' := Lib.hid ((beqB_iff _ _).1 hb)
          rw [hb] at hq
          clear hb
          go_wp2
          go_quiet (fail)
          go_wp2
          go_roundw
          case rel =>
            refine ⟨k + 1, by omega, by go_num, ?_, by repeat (first | exact Quiet.refl _ | apply Quiet.step)⟩
            show ∀ j : Nat, j < k + 1 → l[j]? = m[j]?
            intro j hj
            by_cases hjk : j < k
            · exact hn.out j hjk
            · obtain rfl : j = k := by omega
              rw [get_some hlt, get_some hlt', hb'.out]
          case measure => simp [intOf]; omega
        | false =>
          have hs := Lib.hid (sameL_false l m k hlt hlt' hb)
          rw [hb] at hq
          clear hb
          go_wp2
          go_quiet (fail)
          go_wp2
          go_ret
          exact ⟨by rw [hs.out]; rfl, by repeat (first | exact Quiet.refl _ | apply Quiet.step)⟩
      · obtain rfl : k = l.length := by omega
        have hs : Hid (sameL l m = true) := (sameL_iff l m).2 (List.ext_getElem? fun j => by
          by_cases hj : j < l.length
          · exact hn.out j hj
          · rw [List.getElem?_eq_none (by omega), List.getElem?_eq_none (by have := hlen'.out; omega)])
        clear hn
        go_wp2
        go_ret
        exact ⟨by rw [hs.out]; rfl, by repeat (first | exact Quiet.refl _ | apply Quiet.step)⟩
  · have hs : Hid (sameL l m = false) := by
      show _ = _
      rw [Bool.eq_false_iff]
      intro e
      exact hlen (by rw [(sameL_iff l m).1 e])
    have hbn : ((l.length : Int) != (m.length : Int)) = true := by rw [bne_iff_ne]; omega
    have hbn2 : (l.length != m.length) = true := by simp [hlen]
    clear hlen
    go_enter Try.func19, Try.ntmps19
    go_wp2
    go_ret
    exact ⟨by rw [hs.out]; rfl, Quiet.refl _⟩
end Go.Proofs.Ytmodhmcpljabcaa
