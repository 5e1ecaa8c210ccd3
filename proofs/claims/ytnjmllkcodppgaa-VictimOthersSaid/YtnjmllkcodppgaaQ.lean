/- Plain laws of the order of yields. -/
import Derived.Test.YtnjmllkcodppgaaH
namespace Go.Proofs.Ytnjmllkcodppgaa
open Go.RowKit
set_option linter.unusedVariables false

section
variable {a b c : BI} {size now : Int}
theorem bet_iff : betS a b size now = true ↔ fitsS a = true ∧ fitsS b = true ∧ sizeS size = true ∧ num b size now * den a size < num a size now * den b size := by
  unfold betS
  simp only [Bool.and_eq_true, decide_eq_true_eq]
  constructor
  · rintro ⟨⟨⟨h1, h2⟩, h3⟩, h4⟩; exact ⟨h1, h2, h3, h4⟩
  · rintro ⟨h1, h2, h3, h4⟩; exact ⟨⟨⟨h1, h2⟩, h3⟩, h4⟩
theorem bet_irr : betS a a size now = false := by
  rw [Bool.eq_false_iff]
  intro h
  have := (bet_iff.1 h).2.2.2
  omega
theorem bet_asymm (h : betS a b size now = true) : betS b a size now = false := by
  rw [Bool.eq_false_iff]
  intro h2
  have := (bet_iff.1 h).2.2.2
  have := (bet_iff.1 h2).2.2.2
  omega

/-- cross multiplication: na/da > nb/db ≥ nc/dc -/
theorem cross_lt {na nb nc da db dc : Int} (hb : 0 < db) (ha : 0 < da) (hc : 0 < dc) (h1 : nb * da < na * db) (h2 : nc * db ≤ nb * dc) : nc * da < na * dc := by
  have k1 : nb * da * dc < na * db * dc := Int.mul_lt_mul_of_pos_right h1 hc
  have k2 : nc * db * da ≤ nb * dc * da := Int.mul_le_mul_of_nonneg_right h2 (by omega)
  rw [Int.mul_right_comm nb da dc] at k1
  have k3 : nc * db * da < na * db * dc := by omega
  rw [Int.mul_right_comm nc db da, Int.mul_right_comm na db dc] at k3
  exact Int.lt_of_mul_lt_mul_right k3 (by omega)
theorem cross_le_lt {na nb nc da db dc : Int} (hb : 0 < db) (ha : 0 < da) (hc : 0 < dc) (h1 : nb * da ≤ na * db) (h2 : nc * db < nb * dc) : nc * da < na * dc := by
  have k1 : nb * da * dc ≤ na * db * dc := Int.mul_le_mul_of_nonneg_right h1 (by omega)
  have k2 : nc * db * da < nb * dc * da := Int.mul_lt_mul_of_pos_right h2 ha
  rw [Int.mul_right_comm nb da dc] at k1
  have k3 : nc * db * da < na * db * dc := by omega
  rw [Int.mul_right_comm nc db da, Int.mul_right_comm na db dc] at k3
  exact Int.lt_of_mul_lt_mul_right k3 (by omega)
theorem cross_le {na nb nc da db dc : Int} (hb : 0 < db) (ha : 0 < da) (hc : 0 < dc) (h1 : na * db ≤ nb * da) (h2 : nb * dc ≤ nc * db) : na * dc ≤ nc * da := by
  have k1 : na * db * dc ≤ nb * da * dc := Int.mul_le_mul_of_nonneg_right h1 (by omega)
  have k2 : nb * dc * da ≤ nc * db * da := Int.mul_le_mul_of_nonneg_right h2 (by omega)
  rw [Int.mul_right_comm nb da dc] at k1
  have k3 : na * db * dc ≤ nc * db * da := by omega
  rw [Int.mul_right_comm nc db da, Int.mul_right_comm na db dc] at k3
  exact Int.le_of_mul_le_mul_right k3 hb

theorem bet_trans (h1 : betS a b size now = true) (h2 : betS b c size now = true) : betS a c size now = true := by
  obtain ⟨fa, fb, hs, l1⟩ := bet_iff.1 h1
  obtain ⟨_, fc, _, l2⟩ := bet_iff.1 h2
  have da := den_pos fa hs
  have db := den_pos fb hs
  have dc := den_pos fc hs
  exact bet_iff.2 ⟨fa, fc, hs, cross_lt (by omega) (by omega) (by omega) l1 (by omega)⟩
theorem bet_neg (fa : fitsS a = true) (fb : fitsS b = true) (fc : fitsS c = true) (hs : sizeS size = true) (h1 : betS a b size now = false) (h2 : betS b c size now = false) : betS a c size now = false := by
  have da := den_pos fa hs
  have db := den_pos fb hs
  have dc := den_pos fc hs
  rw [betS_ok fa fb hs] at h1
  rw [betS_ok fb fc hs] at h2
  rw [betS_ok fa fc hs]
  have l1 := of_decide_eq_false h1
  have l2 := of_decide_eq_false h2
  have := cross_le (na := num a size now) (nb := num b size now) (nc := num c size now) (da := den a size) (db := den b size) (dc := den c size) (by omega) (by omega) (by omega) (by omega) (by omega)
  exact decide_eq_false (by omega)
end
end Go.Proofs.Ytnjmllkcodppgaa
