/- Plain laws of Choose: what it chooses, and what it does not look at. -/
import Derived.Test.YtnjmllkcodppgaaJ
import Derived.Test.YtnjmllkcodppgaaQ
namespace Go.Proofs.Ytnjmllkcodppgaa
open Go.RowKit
set_option linter.unusedVariables false

section
variable {a b c : BI} {l : List BI} {size now opn : Int}
theorem wins_irr : wins a a size now = false := by
  unfold wins
  rw [bet_irr]
  simp
theorem wins_trans (fa : fitsS a = true) (fb : fitsS b = true) (fc : fitsS c = true) (hs : sizeS size = true) (h1 : wins a b size now = true) (h2 : wins b c size now = true) : wins a c size now = true := by
  unfold wins at *
  simp only [Bool.or_eq_true, Bool.and_eq_true, Bool.not_eq_true', decide_eq_true_eq] at *
  rcases h1 with h1 | ⟨h1, w1⟩
  · rcases h2 with h2 | ⟨h2, w2⟩
    · exact .inl (bet_trans h1 h2)
    · left
      cases e : betS a c size now with
      | true => rfl
      | false => exact absurd h1 (by rw [bet_neg fa fc fb hs e h2]; simp)
  · rcases h2 with h2 | ⟨h2, w2⟩
    · left
      cases e : betS a c size now with
      | true => rfl
      | false => exact absurd h2 (by rw [bet_neg fb fa fc hs h1 e]; simp)
    · exact .inr ⟨bet_neg fc fb fa hs h2 h1, by omega⟩
theorem wins_false (h : wins a b size now = false) : betS a b size now = false ∧ (betS b a size now = true ∨ (betS b a size now = false ∧ decide (a.wear < b.wear) = false)) := by
  unfold wins at h
  rw [Bool.or_eq_false_iff] at h
  refine ⟨h.1, ?_⟩
  cases e : betS b a size now with
  | true => exact .inl rfl
  | false =>
    rw [e] at h
    exact .inr ⟨rfl, by simpa using h.2⟩
theorem fits_of (hv : vld l size = true) (hs : size ≤ 1048576) {i : Nat} (hi : i < l.length) : fitsS l[i] = true :=
  (fits_iff _).2 (by have := vld_mem hv hi; omega)
theorem sizeS_of (hv : vld l size = true) (hs : size ≤ 1048576) : sizeS size = true := (size_iff _).2 ⟨((vld_iff _ _).1 hv).2.2.1, hs⟩

/-- what the scan of the first k bands has found -/
theorem ch_inv (hv : vld l size = true) (hs : size ≤ 1048576) (k : Nat) (hk : k ≤ l.length) :
    (chTo l size now opn k < 0 ∧ ∀ i (h : i < l.length), i < k → cand l[i] size opn i = false) ∨
    ∃ (j : Nat) (hj : j < l.length), j < k ∧ chTo l size now opn k = j ∧ cand l[j] size opn j = true ∧ ∀ i (h : i < l.length), i < k → cand l[i] size opn i = true → wins l[i] l[j] size now = false := by
  induction k with
  | zero => exact .inl ⟨by simp [chTo], by omega⟩
  | succ k ih =>
    have hkl : k < l.length := by omega
    cases hc : cand l[k] size opn k with
    | false =>
      rw [ch_no hkl hc]
      rcases ih (by omega) with ⟨h1, h2⟩ | ⟨j, hj, h1, h2, h3, h4⟩
      · refine .inl ⟨h1, fun i h hi => ?_⟩
        by_cases e : i = k
        · subst e; exact hc
        · exact h2 i h (by omega)
      · refine .inr ⟨j, hj, by omega, h2, h3, fun i h hi hci => ?_⟩
        by_cases e : i = k
        · subst e; rw [hc] at hci; cases hci
        · exact h4 i h (by omega) hci
    | true =>
      rcases ih (by omega) with ⟨h1, h2⟩ | ⟨j, hj, h1, h2, h3, h4⟩
      · rw [ch_first hkl hc h1]
        refine .inr ⟨k, hkl, by omega, rfl, hc, fun i h hi hci => ?_⟩
        by_cases e : i = k
        · subst e; exact wins_irr
        · have := h2 i h (by omega); rw [this] at hci; cases hci
      · cases hw : wins l[k] l[j] size now with
        | true =>
          rw [ch_take hkl hj hc h2 hw]
          refine .inr ⟨k, hkl, by omega, rfl, hc, fun i h hi hci => ?_⟩
          by_cases e : i = k
          · subst e; exact wins_irr
          · cases hw2 : wins l[i] l[k] size now with
            | false => rfl
            | true =>
              have := wins_trans (fits_of hv hs h) (fits_of hv hs hkl) (fits_of hv hs hj) (sizeS_of hv hs) hw2 hw
              rw [h4 i h (by omega) hci] at this
              cases this
        | false =>
          rw [ch_keep (opn := opn) hkl hj h2 hw]
          refine .inr ⟨j, hj, by omega, rfl, h3, fun i h hi hci => ?_⟩
          by_cases e : i = k
          · subst e; exact hw
          · exact h4 i h (by omega) hci

/-- the two outcomes of Choose over a valid list -/
theorem choose_cases (now opn : Int) (hv : vld l size = true) (hs : size ≤ 1048576) :
    (chooseR l size now opn = (0, 9) ∧ ∀ i (h : i < l.length), cand l[i] size opn i = false) ∨
    ∃ (j : Nat) (hj : j < l.length), chooseR l size now opn = ((j : Int), 0) ∧ cand l[j] size opn j = true ∧ ∀ i (h : i < l.length), cand l[i] size opn i = true → wins l[i] l[j] size now = false := by
  unfold chooseR
  rw [if_pos ⟨hv, hs⟩]
  rcases ch_inv (now := now) (opn := opn) hv hs l.length (Nat.le_refl _) with ⟨h1, h2⟩ | ⟨j, hj, _, h2, h3, h4⟩
  · exact .inl ⟨by rw [if_pos h1], fun i h => h2 i h h⟩
  · exact .inr ⟨j, hj, by rw [if_neg (by omega), h2], h3, fun i h => h4 i h h⟩

theorem cand_zero (wr size opn i : Int) : cand ⟨0, 0, 0, wr⟩ size opn i = false := by unfold cand; simp
theorem vld_set (hv : vld l size = true) (at_ : Nat) (wr : Int) : vld (l.set at_ ⟨0, 0, 0, wr⟩) size = true := by
  have h := (vld_iff _ _).1 hv
  refine (vld_iff _ _).2 ⟨by simpa using h.1, by simpa using h.2.1, h.2.2.1, fun b hb => ?_⟩
  rcases List.mem_or_eq_of_mem_set hb with hb | rfl
  · exact h.2.2.2 b hb
  · exact ⟨by simp, by simp, by show (0 : Int) ≤ size; omega⟩
theorem getD_set_ne {i at_ : Nat} (h : i ≠ at_) (z : BI) : (l.set at_ z).getD i zb = l.getD i zb := by
  rw [List.getD_eq_getElem?_getD, List.getD_eq_getElem?_getD, List.getElem?_set_ne (Ne.symm h)]
theorem chTo_set (hv : vld l size = true) (hs : size ≤ 1048576) (at_ : Nat) (hat : at_ < l.length) (hc : cand l[at_] size opn at_ = false) (wr : Int) (k : Nat) (hk : k ≤ l.length) :
    chTo (l.set at_ ⟨0, 0, 0, wr⟩) size now opn k = chTo l size now opn k := by
  induction k with
  | zero => rfl
  | succ k ih =>
    have hkl : k < l.length := by omega
    have ih := ih (by omega)
    by_cases e : k = at_
    · subst e
      rw [ch_no hkl hc, ← ih]
      refine ch_no (by simpa using hkl) ?_
      rw [List.getElem_set_self]
      exact cand_zero _ _ _ _
    · simp only [chTo, chStep, ih, getD_set_ne e]
      rcases ch_inv (now := now) (opn := opn) hv hs k (by omega) with ⟨h1, h2⟩ | ⟨j, hj, h1, h2, h3, h4⟩
      · simp only [h1, true_or, and_true]
      · have hja : j ≠ at_ := by
          rintro rfl
          rw [hc] at h3
          cases h3
        rw [h2, Int.toNat_natCast, getD_set_ne hja]
theorem choose_set (hv : vld l size = true) (hs : size ≤ 1048576) (at_ : Nat) (hat : at_ < l.length) (hc : cand l[at_] size opn at_ = false) (wr : Int) :
    chooseR (l.set at_ ⟨0, 0, 0, wr⟩) size now opn = chooseR l size now opn := by
  unfold chooseR
  rw [if_pos ⟨vld_set hv at_ wr, hs⟩, if_pos (c := vld l size = true ∧ size ≤ 1048576) ⟨hv, hs⟩, List.length_set, chTo_set hv hs at_ hat hc wr l.length (Nat.le_refl _)]
end
end Go.Proofs.Ytnjmllkcodppgaa
