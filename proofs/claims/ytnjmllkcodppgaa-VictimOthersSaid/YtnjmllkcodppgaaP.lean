/- Plain laws of yields: exact comparison by products in two words. -/
import Derived.Test.YtnjmllkcodppgaaC
namespace Go.Proofs.Ytnjmllkcodppgaa
open Go.RowKit
set_option linter.unusedVariables false

def ageS (b : BI) (now : Int) : Int := if now < b.age then 0 else if now - b.age ≤ 1099511627776 then now - b.age else 1099511627776
def fitsS (b : BI) : Bool := decide (0 ≤ b.live) && decide (b.live ≤ 1048576)
def num (b : BI) (size now : Int) : Int := (size - b.live) * (ageS b now + 1)
def den (b : BI) (size : Int) : Int := size + b.live
def sizeS (size : Int) : Bool := decide (1 ≤ size) && decide (size ≤ 1048576)
/-- Better, as the document says it. -/
def betS (a b : BI) (size now : Int) : Bool := (fitsS a && fitsS b && sizeS size) && decide (num b size now * den a size < num a size now * den b size)

theorem fits_iff (b : BI) : fitsS b = true ↔ 0 ≤ b.live ∧ b.live ≤ 1048576 := by unfold fitsS; simp
theorem size_iff (s : Int) : sizeS s = true ↔ 1 ≤ s ∧ s ≤ 1048576 := by unfold sizeS; simp
theorem age_range (b : BI) (now : Int) : 0 ≤ ageS b now ∧ ageS b now ≤ 1099511627776 := by
  unfold ageS
  split
  · omega
  · split <;> omega

theorem mul_range {a b A B : Int} (ha : 0 ≤ a) (hA : a ≤ A) (hb : 0 ≤ b) (hB : b ≤ B) : 0 ≤ a * b ∧ a * b ≤ A * B :=
  ⟨Int.mul_nonneg ha hb, Int.mul_le_mul hA hB hb (by omega)⟩

/-- lexicographic comparison of two words is comparison of the numbers -/
def lexB (h l k m : Int) : Bool := decide (h < k) || (h == k && decide (l < m))
theorem lex_div (x y M : Int) (hM : 0 < M) : lexB (x / M) (x % M) (y / M) (y % M) = decide (x < y) := by
  unfold lexB
  have ex := Int.mul_ediv_add_emod x M
  have ey := Int.mul_ediv_add_emod y M
  have rx := Int.emod_nonneg x (show M ≠ 0 by omega)
  have ry := Int.emod_nonneg y (show M ≠ 0 by omega)
  have sx := Int.emod_lt_of_pos x hM
  have sy := Int.emod_lt_of_pos y hM
  generalize x / M = h at *
  generalize y / M = k at *
  generalize x % M = l at *
  generalize y % M = m at *
  by_cases h1 : h < k
  · have : M * (h + 1) ≤ M * k := Int.mul_le_mul_of_nonneg_left (by omega) (by omega)
    rw [Int.mul_add] at this
    have e : x < y := by omega
    simp [h1, e]
  · by_cases h2 : h = k
    · subst h2
      by_cases h3 : l < m
      · have e : x < y := by omega
        simp [h3, e]
      · have e : ¬ x < y := by omega
        simp [h3, e]
    · have : M * (k + 1) ≤ M * h := Int.mul_le_mul_of_nonneg_left (by omega) (by omega)
      rw [Int.mul_add] at this
      have e : ¬ x < y := by omega
      simp [h1, h2, e]

/-- the reference's product: two words of base 2^20 -/
theorem prod_words (ab c : Int) (h0 : 0 ≤ ab) (hc : 0 ≤ c) :
    ab / 1048576 * c + ab % 1048576 * c / 1048576 = ab * c / 1048576 ∧ ab % 1048576 * c % 1048576 = ab * c % 1048576 := by
  have e : ab * c = 1048576 * (ab / 1048576 * c) + ab % 1048576 * c := by
    have := Int.mul_ediv_add_emod ab 1048576
    have k : ab * c = (1048576 * (ab / 1048576) + ab % 1048576) * c := by rw [this]
    rw [k, Int.add_mul, Int.mul_assoc]
  generalize ab / 1048576 * c = u at *
  generalize ab % 1048576 * c = v at *
  rw [e]
  omega

section
variable {a b : BI} {size now : Int}
theorem den_pos (hb : fitsS b = true) (hs : sizeS size = true) : 1 ≤ den b size ∧ den b size ≤ 2097152 := by
  have := (fits_iff b).1 hb
  have := (size_iff size).1 hs
  unfold den
  omega
theorem num_pos (h : b.live ≤ size) : 0 ≤ num b size now := Int.mul_nonneg (by omega) (by have := age_range b now; omega)
theorem num_neg (h : size < b.live) : num b size now < 0 := by
  have := age_range b now
  have k : 0 < (b.live - size) * (ageS b now + 1) := Int.mul_pos (by omega) (by omega)
  unfold num
  rw [show size - b.live = -(b.live - size) from by omega, Int.neg_mul]
  omega
theorem num_gt (h : b.live < size) : 0 < num b size now := Int.mul_pos (by omega) (by have := age_range b now; omega)
theorem num_zero (h : b.live = size) : num b size now = 0 := by unfold num; rw [h, Int.sub_self, Int.zero_mul]
end
end Go.Proofs.Ytnjmllkcodppgaa
