/- Plain laws: of equal ages the one with less Live is better; of equal Live the older one. -/
import Derived.Test.YtnjmllkcodppgaaQ
namespace Go.Proofs.Ytnjmllkcodppgaa
open Go.RowKit
set_option linter.unusedVariables false

theorem mono_live (a b : BI) (size now : Int) (fa : fitsS a = true) (fb : fitsS b = true) (hs : sizeS size = true) : betS a ⟨b.used, b.live, a.age, b.wear⟩ size now = decide (a.live < b.live) := by
  have fb' : fitsS ⟨b.used, b.live, a.age, b.wear⟩ = true := fb
  rw [betS_ok fa fb' hs]
  have ga := age_range a now
  have s1 := (size_iff size).1 hs
  have la := (fits_iff a).1 fa
  have lb := (fits_iff b).1 fb
  have e : num ⟨b.used, b.live, a.age, b.wear⟩ size now = (size - b.live) * (ageS a now + 1) := rfl
  have e2 : den ⟨b.used, b.live, a.age, b.wear⟩ size = size + b.live := rfl
  have e3 : num a size now = (size - a.live) * (ageS a now + 1) := rfl
  have e4 : den a size = size + a.live := rfl
  rw [e, e2, e3, e4]
  have hg : 0 < ageS a now + 1 := by omega
  generalize ageS a now + 1 = g at *
  generalize a.live = x at *
  generalize b.live = y at *
  have k1 : (size - y) * g * (size + x) = ((size - y) * (size + x)) * g := Int.mul_right_comm _ _ _
  have k2 : (size - x) * g * (size + y) = ((size - x) * (size + y)) * g := Int.mul_right_comm _ _ _
  have k3 : (size - x) * (size + y) - (size - y) * (size + x) = 2 * (size * (y - x)) := by grind
  rw [k1, k2]
  by_cases h : x < y
  · have p : 0 < size * (y - x) := Int.mul_pos (by omega) (by omega)
    rw [decide_eq_true h]
    exact decide_eq_true (Int.mul_lt_mul_of_pos_right (by omega) hg)
  · have p : 0 ≤ size * (x - y) := Int.mul_nonneg (by omega) (by omega)
    have p2 : size * (y - x) = -(size * (x - y)) := by rw [← Int.mul_neg]; congr 1; omega
    rw [decide_eq_false h]
    refine decide_eq_false ?_
    have : (size - x) * (size + y) * g ≤ (size - y) * (size + x) * g := Int.mul_le_mul_of_nonneg_right (by omega) (by omega)
    omega
theorem mono_age (a b : BI) (size now : Int) (fa : fitsS a = true) (hs : sizeS size = true) (hl : a.live < size) (h1 : a.age ≤ now) (h2 : b.age ≤ now) (h3 : now - a.age ≤ 1099511627776) (h4 : now - b.age ≤ 1099511627776) :
    betS a ⟨b.used, a.live, b.age, b.wear⟩ size now = decide (a.age < b.age) := by
  have fb' : fitsS ⟨b.used, a.live, b.age, b.wear⟩ = true := fa
  rw [betS_ok fa fb' hs]
  have s1 := (size_iff size).1 hs
  have la := (fits_iff a).1 fa
  have ea : ageS a now = now - a.age := by
    unfold ageS
    rw [if_neg (by omega), if_pos h3]
  have eb : ageS ⟨b.used, a.live, b.age, b.wear⟩ now = now - b.age := by
    show (if now < b.age then 0 else if now - b.age ≤ 1099511627776 then now - b.age else 1099511627776) = _
    rw [if_neg (by omega), if_pos h4]
  have e : num ⟨b.used, a.live, b.age, b.wear⟩ size now = (size - a.live) * (ageS ⟨b.used, a.live, b.age, b.wear⟩ now + 1) := rfl
  have e2 : den ⟨b.used, a.live, b.age, b.wear⟩ size = size + a.live := rfl
  have e3 : num a size now = (size - a.live) * (ageS a now + 1) := rfl
  have e4 : den a size = size + a.live := rfl
  rw [e, e2, e3, e4, ea, eb]
  generalize a.live = x at *
  have p : 0 < (size - x) * (size + x) := Int.mul_pos (by omega) (by omega)
  rw [Int.mul_right_comm, Int.mul_right_comm (size - x) (now - a.age + 1)]
  generalize (size - x) * (size + x) = q at *
  by_cases h : a.age < b.age
  · rw [decide_eq_true h]
    exact decide_eq_true (Int.mul_lt_mul_of_pos_left (by omega) p)
  · rw [decide_eq_false h]
    refine decide_eq_false ?_
    have : q * (now - a.age + 1) ≤ q * (now - b.age + 1) := Int.mul_le_mul_of_nonneg_left (by omega) (by omega)
    omega
end Go.Proofs.Ytnjmllkcodppgaa
