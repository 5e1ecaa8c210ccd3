/- Contracts of math/bits.Mul64, of the ages, of fits, yield, loss, product and sign. -/
import Derived.Test.YtnjmllkcodppgaaP
import Derived.Lib.Mul64
import Derived.Laws.Bits64b
namespace Go.Proofs.Ytnjmllkcodppgaa
open Go.RowKit
set_option linter.unusedVariables false

theorem maskN (a : Nat) (ha : a < 18446744073709551616) : bits .and .u64 (a : Int) 4294967295 = ((a % 4294967296 : Nat) : Int) := by
  have h := bits_and_u64_nat a 4294967295 ha (by omega)
  have e : a &&& 4294967295 = a % 4294967296 := Nat.and_two_pow_sub_one_eq_mod a 32
  rw [e] at h
  exact h
theorem divN (a : Nat) : (a : Int) / 4294967296 = ((a / 4294967296 : Nat) : Int) := by omega
theorem mulN (a b : Nat) : (a : Int) * (b : Int) = ((a * b : Nat) : Int) := (Int.natCast_mul a b).symm
theorem addN (a b : Nat) : (a : Int) + (b : Int) = ((a + b : Nat) : Int) := (Int.natCast_add a b).symm
theorem wrapN (a : Nat) (ha : a < 18446744073709551616) : IntKind.u64.wrap (a : Int) = (a : Int) := by rw [IntKind.wrap_u64]; omega
theorem wrapM (a : Nat) : IntKind.u64.wrap (a : Int) = ((a % 18446744073709551616 : Nat) : Int) := by rw [IntKind.wrap_u64]; omega

set_option maxHeartbeats 1000000 in
theorem mul64 (x y : Nat) (hx : x < 18446744073709551616) (hy : y < 18446744073709551616) (w : World) :
    Calls Try.prog 19 #[.int .u64 x, .int .u64 y] w fun e w' => e = .returned (.tuple #[.int .u64 ((x * y / 18446744073709551616 : Nat) : Int), .int .u64 ((x * y % 18446744073709551616 : Nat) : Int)]) ∧ w' = w := by
  obtain ⟨bd, bt, bw, hhi⟩ := Lib.mul64_hi x y hx hy
  have ba := Lib.half_mul_le (a := x / 4294967296) (b := y / 4294967296) (by omega) (by omega)
  have bb := Lib.half_mul_le (a := x / 4294967296) (b := y % 4294967296) (by omega) (by omega)
  have bc := Lib.half_mul_le (a := x % 4294967296) (b := y / 4294967296) (by omega) (by omega)
  have ba' : x / 4294967296 * (y / 4294967296) < 18446744073709551616 := by omega
  have bb' : x / 4294967296 * (y % 4294967296) < 18446744073709551616 := by omega
  have bc' : x % 4294967296 * (y / 4294967296) < 18446744073709551616 := by omega
  have bh1 : x / 4294967296 * (y / 4294967296) + (x / 4294967296 * (y % 4294967296) + x % 4294967296 * (y % 4294967296) / 4294967296) / 4294967296 < 18446744073709551616 := by omega
  have bh : x / 4294967296 * (y / 4294967296) + (x / 4294967296 * (y % 4294967296) + x % 4294967296 * (y % 4294967296) / 4294967296) / 4294967296 + ((x / 4294967296 * (y % 4294967296) + x % 4294967296 * (y % 4294967296) / 4294967296) % 4294967296 + x % 4294967296 * (y / 4294967296)) / 4294967296 < 18446744073709551616 := by omega
  go_enter Try.func19, Try.ntmps19
  go_wp2
  simp only [maskN x hx, maskN y hy, divN, mulN, addN, wrapN _ bd, wrapN _ bb', wrapN _ bt, maskN _ bt, wrapN _ bc', wrapN _ bw, wrapN _ ba', wrapN _ bh1, wrapN _ bh, wrapM (x * y)]
  rw [hhi]
  go_ret2
  exact ⟨rfl, rfl⟩

theorem mul64I (p s : Int) (hp : 0 ≤ p ∧ p < 18446744073709551616) (hs : 0 ≤ s ∧ s < 18446744073709551616) (w : World) :
    Calls Try.prog 19 #[.int .u64 p, .int .u64 s] w fun e w' => e = .returned (.tuple #[.int .u64 (p * s / 18446744073709551616), .int .u64 (p * s % 18446744073709551616)]) ∧ w' = w := by
  obtain ⟨x, rfl⟩ := Int.eq_ofNat_of_zero_le hp.1
  obtain ⟨y, rfl⟩ := Int.eq_ofNat_of_zero_le hs.1
  have k := mul64 x y (by omega) (by omega) w
  have e1 : ((x * y / 18446744073709551616 : Nat) : Int) = (x : Int) * y / 18446744073709551616 := by rw [← Int.natCast_mul]; omega
  have e2 : ((x * y % 18446744073709551616 : Nat) : Int) = (x : Int) * y % 18446744073709551616 := by rw [← Int.natCast_mul]; omega
  rwa [e1, e2] at k

theorem age_zero {b : BI} {now : Int} (h : now ≤ b.age) : ageS b now = 0 := by
  unfold ageS
  by_cases h1 : now < b.age
  · rw [if_pos h1]
  · rw [if_neg h1, if_pos (by omega)]; omega
theorem age_diff {b : BI} {now : Int} (h : b.age < now) (h2 : now - b.age ≤ 1099511627776) : ageS b now = now - b.age := by
  unfold ageS
  rw [if_neg (by omega), if_pos h2]
theorem age_max {b : BI} {now : Int} (h : b.age < now) (h2 : 1099511627776 < now - b.age) : ageS b now = 1099511627776 := by
  unfold ageS
  rw [if_neg (by omega), if_neg (by omega)]
/-- the range of a time -/
def u64 (n : Int) : Prop := 0 ≤ n ∧ n ≤ 18446744073709551615

theorem refAge (b : BI) (now : Int) (w : World) (ha : u64 b.age) (hn : u64 now) :
    Calls Try.prog 26 #[.agg #[.int .i64 b.used, .int .i64 b.live, .int .u64 b.age, .int .u64 b.wear], .int .u64 now] w fun e w' => e = .returned (.int .u64 (ageS b now)) ∧ Below w.heap.size w w' := by
  obtain ⟨a0, a1⟩ := ha
  obtain ⟨n0, n1⟩ := hn
  by_cases h : now < b.age
  · have e := Lib.hid (show ageS b now = 0 by unfold ageS; rw [if_pos h])
    generalize b.age = ag at *
    go_enter Try.func26, Try.ntmps26
    go_wp2
    go_ret
    exact ⟨by rw [e.out]; rfl, (Below.refl _ _).alloc (Nat.le_refl _) _⟩
  · have hge : b.age ≤ now := by omega
    by_cases h2 : now - b.age ≤ 1099511627776
    · have e := Lib.hid (show ageS b now = now - b.age by unfold ageS; rw [if_neg h, if_pos h2])
      generalize b.age = ag at *
      go_enter Try.func26, Try.ntmps26
      go_wp2
      go_ret
      exact ⟨by rw [e.out]; rfl, (Below.refl _ _).alloc (Nat.le_refl _) _⟩
    · have e := Lib.hid (show ageS b now = 1099511627776 by unfold ageS; rw [if_neg h, if_neg h2])
      generalize b.age = ag at *
      go_enter Try.func26, Try.ntmps26
      go_wp2
      go_ret
      exact ⟨by rw [e.out]; rfl, (Below.refl _ _).alloc (Nat.le_refl _) _⟩

theorem vFits (b : BI) (w : World) : Calls Try.prog 16 #[.agg #[.int .i64 b.used, .int .i64 b.live, .int .u64 b.age, .int .u64 b.wear]] w fun e w' => e = .returned (.bool (fitsS b)) ∧ Below w.heap.size w w' := by
  have e := Lib.hid (show fitsS b = (decide (0 ≤ b.live) && decide (b.live ≤ 1048576)) from rfl)
  generalize b.live = l at *
  by_cases h : 0 ≤ l
  · by_cases h2 : l ≤ 1048576
    · go_enter Try.func16, Try.ntmps16
      go_wp2
      go_ret
      exact ⟨by rw [e.out]; simp [*], (Below.refl _ _).alloc (Nat.le_refl _) _⟩
    · go_enter Try.func16, Try.ntmps16
      go_wp2
      go_ret
      exact ⟨by rw [e.out]; simp [*], (Below.refl _ _).alloc (Nat.le_refl _) _⟩
  · go_enter Try.func16, Try.ntmps16
    go_wp2
    go_ret
    exact ⟨by rw [e.out]; simp [*] <;> omega, (Below.refl _ _).alloc (Nat.le_refl _) _⟩

theorem rFits (b : BI) (size : Int) (w : World) : Calls Try.prog 20 #[.agg #[.int .i64 b.used, .int .i64 b.live, .int .u64 b.age, .int .u64 b.wear], .int .i64 size] w fun e w' => e = .returned (.bool (fitsS b && sizeS size)) ∧ Below w.heap.size w w' := by
  have e := Lib.hid (show (fitsS b && sizeS size) = ((decide (0 ≤ b.live) && decide (b.live ≤ 1048576)) && (decide (1 ≤ size) && decide (size ≤ 1048576))) from rfl)
  generalize b.live = l at *
  by_cases h : 1 ≤ size
  · by_cases h2 : size ≤ 1048576
    · by_cases h3 : 0 ≤ l
      · by_cases h4 : l ≤ 1048576
        · go_enter Try.func20, Try.ntmps20
          go_wp2
          go_ret
          exact ⟨by rw [e.out]; simp [*], (Below.refl _ _).alloc (Nat.le_refl _) _⟩
        · go_enter Try.func20, Try.ntmps20
          go_wp2
          go_ret
          exact ⟨by rw [e.out]; simp [*], (Below.refl _ _).alloc (Nat.le_refl _) _⟩
      · go_enter Try.func20, Try.ntmps20
        go_wp2
        go_ret
        exact ⟨by rw [e.out]; simp [*] <;> omega, (Below.refl _ _).alloc (Nat.le_refl _) _⟩
    · go_enter Try.func20, Try.ntmps20
      go_wp2
      go_ret
      exact ⟨by rw [e.out]; simp [*] <;> omega, (Below.refl _ _).alloc (Nat.le_refl _) _⟩
  · go_enter Try.func20, Try.ntmps20
    go_wp2
    go_ret
    exact ⟨by rw [e.out]; simp [*] <;> omega, (Below.refl _ _).alloc (Nat.le_refl _) _⟩

/-- yield of a band with Live at most the size -/
theorem vYield (b : BI) (size now : Int) (w : World) (ha : u64 b.age) (hn : u64 now) (hs : 1 ≤ size ∧ size ≤ 1048576) (hl : 0 ≤ b.live ∧ b.live ≤ size) :
    Calls Try.prog 18 #[.agg #[.int .i64 b.used, .int .i64 b.live, .int .u64 b.age, .int .u64 b.wear], .int .i64 size, .int .u64 now] w fun e w' => e = .returned (.tuple #[.int .u64 (num b size now), .int .u64 (den b size)]) ∧ Below w.heap.size w w' := by
  obtain ⟨a0, a1⟩ := ha
  obtain ⟨n0, n1⟩ := hn
  obtain ⟨s0, s1⟩ := hs
  obtain ⟨l0, l1⟩ := hl
  have er := mul_range (a := size - b.live) (b := ageS b now + 1) (A := 1048576) (B := 1099511627777) (by omega) (by omega) (by have := age_range b now; omega) (by have := age_range b now; omega)
  have hnum := Lib.hid (show num b size now = (size - b.live) * (ageS b now + 1) from rfl)
  have hden := Lib.hid (show den b size = size + b.live from rfl)
  by_cases h : now ≤ b.age
  · have e := age_zero h
    rw [e] at er hnum
    clear e
    generalize b.age = ag at *
    generalize b.live = l at *
    go_enter Try.func18, Try.ntmps18
    go_wp2
    go_quiet (fail)
    go_wp2
    go_ret2
    exact ⟨by rw [hnum.out, hden.out]; first | rfl | simp, below_drewN ((Below.refl _ _).alloc (Nat.le_refl _) _) _⟩
  · have h1 : b.age < now := by omega
    clear h
    by_cases h2 : now - b.age ≤ 1099511627776
    · have e := age_diff h1 h2
      rw [e] at er hnum
      clear e
      generalize b.age = ag at *
      generalize b.live = l at *
      go_enter Try.func18, Try.ntmps18
      go_wp2
      go_quiet (fail)
      go_wp2
      go_ret2
      exact ⟨by rw [hnum.out, hden.out]; first | rfl | simp, below_drewN ((Below.refl _ _).alloc (Nat.le_refl _) _) _⟩
    · have h3 : 1099511627776 < now - b.age := by omega
      have e := age_max h1 h3
      clear h2
      rw [e] at er hnum
      clear e
      generalize b.age = ag at *
      generalize b.live = l at *
      go_enter Try.func18, Try.ntmps18
      go_wp2
      go_quiet (fail)
      go_wp2
      go_ret2
      exact ⟨by rw [hnum.out, hden.out]; first | rfl | simp, below_drewN ((Below.refl _ _).alloc (Nat.le_refl _) _) _⟩

/-- the absolute value of a negative yield -/
def lossN (b : BI) (size now : Int) : Int := (ageS b now + 1) * (b.live - size)
theorem lossN_num (b : BI) (size now : Int) : lossN b size now = -num b size now := by
  unfold lossN num
  rw [show size - b.live = -(b.live - size) from by omega, Int.neg_mul, Int.neg_neg, Int.mul_comm]

set_option maxHeartbeats 1000000 in
theorem vLoss (b : BI) (size now : Int) (w : World) (ha : u64 b.age) (hn : u64 now) (hs : 1 ≤ size ∧ size ≤ 1048576) (hl : size < b.live ∧ b.live ≤ 1048576) :
    Calls Try.prog 24 #[.agg #[.int .i64 b.used, .int .i64 b.live, .int .u64 b.age, .int .u64 b.wear], .int .i64 size, .int .u64 now] w fun e w' => e = .returned (.tuple #[.int .u64 (lossN b size now), .int .u64 (den b size)]) ∧ Below w.heap.size w w' := by
  have hy := fun W => vYield ⟨b.used, 0, b.age, b.wear⟩ size now W ha hn hs (by simp; omega)
  have ag := age_range b now
  have hq := Lib.hid (show num ⟨b.used, 0, b.age, b.wear⟩ size now / size = ageS b now + 1 by
    unfold num
    show (size - 0) * (ageS b now + 1) / size = _
    rw [Int.sub_zero, Int.mul_ediv_cancel_left _ (by omega)])
  have hr := mul_range (a := size - (0 : Int)) (b := ageS b now + 1) (A := 1048576) (B := 1099511627777) (by omega) (by omega) (by omega) (by omega)
  have hr2 : 0 ≤ num ⟨b.used, 0, b.age, b.wear⟩ size now ∧ num ⟨b.used, 0, b.age, b.wear⟩ size now ≤ 1048576 * 1099511627777 := hr
  have hr3 := mul_range (a := ageS b now + 1) (b := b.live - size) (A := 1099511627777) (B := 1048576) (by omega) (by omega) (by omega) (by omega)
  have hd : ∀ W, Calls Try.prog 18 #[.agg #[.int .i64 b.used, .int .i64 0, .int .u64 b.age, .int .u64 b.wear], .int .i64 size, .int .u64 now] W fun e w' => e = .returned (.tuple #[.int .u64 (num ⟨b.used, 0, b.age, b.wear⟩ size now), .int .u64 (den ⟨b.used, 0, b.age, b.wear⟩ size)]) ∧ Below W.heap.size W w' := hy
  generalize num ⟨b.used, 0, b.age, b.wear⟩ size now = n at *
  generalize den ⟨b.used, 0, b.age, b.wear⟩ size = m at *
  have hln := Lib.hid (show lossN b size now = (ageS b now + 1) * (b.live - size) from rfl)
  have hdn := Lib.hid (show den b size = size + b.live from rfl)
  replace hd := Lib.hid hd
  clear hy hr
  generalize ageS b now = g at *
  obtain ⟨s0, s1⟩ := hs
  obtain ⟨l0, l1⟩ := hl
  have hB0 : Below w.heap.size w ((w.alloc (.cells #[.int .i64 b.used, .int .i64 b.live, .int .u64 b.age, .int .u64 b.wear] 24)).alloc (.cells #[.int .i64 b.used, .int .i64 0, .int .u64 b.age, .int .u64 b.wear] 24)) :=
    ((Below.refl _ _).alloc (Nat.le_refl _) _).alloc (by simp) _
  have hx : ((w.alloc (.cells #[.int .i64 b.used, .int .i64 b.live, .int .u64 b.age, .int .u64 b.wear] 24)).alloc (.cells #[.int .i64 b.used, .int .i64 0, .int .u64 b.age, .int .u64 b.wear] 24)).cell? ⟨w.heap.size, 1, none⟩ = some (.int .i64 b.live) :=
    cell_alloc (cell_of_row _ _ 1 _ _ _ (heap_alloc_new _ _)) _
  go_enter Try.func24, Try.ntmps24
  go_wp2_with fail
  refine (hd.out _).mono ?_
  rintro e w1 ⟨rfl, hb1⟩
  replace hx := cell_below hb1 hx
  replace hB0 := below_then hB0 hB0.size hb1
  have hq2 := hq.out
  clear hb1 hd hq
  go_wp2
  go_quiet (fail)
  go_wp2
  go_ret2
  exact ⟨by rw [hln.out, hdn.out]; rfl, below_drewN hB0 _⟩

theorem mask20 (z : Int) (h0 : 0 ≤ z) (h1 : z < 18446744073709551616) : bits .and .u64 z 1048575 = z % 1048576 := by
  obtain ⟨a, rfl⟩ := Int.eq_ofNat_of_zero_le h0
  have h := bits_and_u64_nat a 1048575 (by omega) (by omega)
  have e : a &&& 1048575 = a % 1048576 := Nat.and_two_pow_sub_one_eq_mod a 20
  rw [e] at h
  rw [show ((1048575 : Nat) : Int) = 1048575 from rfl] at h
  rw [h]
  omega

set_option maxHeartbeats 1000000 in
theorem rProduct (a b c : Int) (w : World) (ha : 0 ≤ a ∧ a ≤ 1048576) (hb : 0 ≤ b ∧ b ≤ 2097152) (hc : 0 ≤ c ∧ c ≤ 1099511627777) :
    Calls Try.prog 25 #[.int .u64 a, .int .u64 b, .int .u64 c] w fun e w' => e = .returned (.tuple #[.int .u64 (a * b * c / 1048576), .int .u64 (a * b * c % 1048576)]) ∧ w' = w := by
  have hab := mul_range ha.1 ha.2 hb.1 hb.2
  obtain ⟨p1, p2⟩ := prod_words (a * b) c hab.1 hc.1
  have m1 := mul_range (a := a * b / 1048576) (b := c) (A := 2097152) (B := 1099511627777) (by omega) (by omega) hc.1 hc.2
  have m2 := mul_range (a := a * b % 1048576) (b := c) (A := 1048576) (B := 1099511627777) (by omega) (by omega) hc.1 hc.2
  have hm1 := mask20 (a * b) hab.1 (by omega)
  have hm2 := mask20 (a * b % 1048576 * c) m2.1 (by omega)
  replace p1 := Lib.hid p1
  replace p2 := Lib.hid p2
  obtain ⟨a0, a1⟩ := ha
  obtain ⟨b0, b1⟩ := hb
  obtain ⟨c0, c1⟩ := hc
  go_enter Try.func25, Try.ntmps25
  go_wp2
  go_ret2
  exact ⟨by rw [← p1.out, ← p2.out]; rfl, rfl⟩

theorem rSign (n : Int) (w : World) : Calls Try.prog 21 #[.int .i64 n] w fun e w' => e = .returned (.int .i64 (if 0 < n then 1 else if n < 0 then -1 else 0)) ∧ w' = w := by
  by_cases h : 0 < n
  · go_enter Try.func21, Try.ntmps21
    go_wp2
    go_ret
    exact ⟨rfl, rfl⟩
  · by_cases h2 : n < 0
    · go_enter Try.func21, Try.ntmps21
      go_wp2
      go_ret
      exact ⟨rfl, rfl⟩
    · go_enter Try.func21, Try.ntmps21
      go_wp2
      go_ret
      exact ⟨rfl, rfl⟩
end Go.Proofs.Ytnjmllkcodppgaa
