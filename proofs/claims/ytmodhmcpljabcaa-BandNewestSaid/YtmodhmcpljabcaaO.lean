/- Plain laws of Append, Unlink and Reset on lists: validity and sums. -/
import Derived.Test.YtmodhmcpljabcaaN
namespace Go.Proofs.Ytmodhmcpljabcaa
open Go.RowKit
set_option linter.unusedVariables false

theorem vld_iff (l : List BI) (size : Int) : vld l size = true ↔ 1 ≤ l.length ∧ l.length ≤ 64 ∧ 1 ≤ size ∧ ∀ b ∈ l, 0 ≤ b.live ∧ b.live ≤ b.used ∧ b.used ≤ size := by
  unfold vld bad
  simp only [Bool.and_eq_true, decide_eq_true_eq, Bool.not_eq_true', List.any_eq_false, Bool.or_eq_true, not_or]
  constructor
  · rintro ⟨h1, h2, h3, h4⟩
    exact ⟨h1, h2, h3, fun b hb => by have := h4 b hb; omega⟩
  · rintro ⟨h1, h2, h3, h4⟩
    exact ⟨h1, h2, h3, fun b hb => by have := h4 b hb; omega⟩
theorem mem_set {l : List BI} {i : Nat} {b x : BI} (h : x ∈ l.set i b) : x = b ∨ x ∈ l := by
  rcases List.mem_or_eq_of_mem_set h with h | h
  · exact .inr h
  · exact .inl h
theorem vld_set {l : List BI} {size : Int} {i : Nat} {b : BI} (h : vld l size = true) (hb : 0 ≤ b.live ∧ b.live ≤ b.used ∧ b.used ≤ size) : vld (l.set i b) size = true := by
  obtain ⟨h1, h2, h3, h4⟩ := (vld_iff _ _).1 h
  refine (vld_iff _ _).2 ⟨by simpa using h1, by simpa using h2, h3, fun x hx => ?_⟩
  rcases mem_set hx with rfl | hx
  · exact hb
  · exact h4 x hx
theorem vld_mem {l : List BI} {size : Int} {i : Nat} (h : vld l size = true) (hi : i < l.length) : 0 ≤ l[i].live ∧ l[i].live ≤ l[i].used ∧ l[i].used ≤ size :=
  ((vld_iff _ _).1 h).2.2.2 _ (List.getElem_mem hi)
theorem w64 {n : Int} (h1 : -9223372036854775808 ≤ n) (h2 : n ≤ 9223372036854775807) : wrap64 n = n := by unfold wrap64; omega
theorem wf64 {n : Int} (h : (Lit.int .i64 n).wf = true) : -9223372036854775808 ≤ n ∧ n ≤ 9223372036854775807 := by
  simp [Lit.wf, IntKind.min, IntKind.max, IntKind.signed, IntKind.bits] at h
  exact h

theorem appR_in {l : List BI} {size now : Int} {i : Nat} (hi : i < l.length) (h : l[i].used < size) : appR l size i now = (l.set i (appB now l[i]), 0) := by
  unfold appR
  rw [if_pos (by omega), Int.toNat_natCast, getD_eq hi, if_neg (by omega)]
theorem appR_full {l : List BI} {size now : Int} {i : Nat} (hi : i < l.length) (h : size ≤ l[i].used) : appR l size i now = ([], 11) := by
  unfold appR
  rw [if_pos (by omega), Int.toNat_natCast, getD_eq hi, if_pos h]
theorem appR_out {l : List BI} {size band now : Int} (h : ¬ (0 ≤ band ∧ band < (l.length : Int))) : appR l size band now = ([], 2) := by
  unfold appR
  rw [if_neg h]
theorem unlR_in {l : List BI} {i : Nat} (hi : i < l.length) (h : 1 ≤ l[i].live) : unlR l i = (l.set i (unlB l[i]), 0) := by
  unfold unlR
  rw [if_pos (by omega), Int.toNat_natCast, getD_eq hi, if_neg (by omega)]
theorem unlR_none {l : List BI} {i : Nat} (hi : i < l.length) (h : l[i].live < 1) : unlR l i = ([], 8) := by
  unfold unlR
  rw [if_pos (by omega), Int.toNat_natCast, getD_eq hi, if_pos h]
theorem unlR_out {l : List BI} {band : Int} (h : ¬ (0 ≤ band ∧ band < (l.length : Int))) : unlR l band = ([], 2) := by
  unfold unlR
  rw [if_neg h]
theorem rstR_in {l : List BI} {i : Nat} (hi : i < l.length) : rstR l i = (l.set i (rstB l[i]), 0) := by
  unfold rstR
  rw [if_pos (by omega), Int.toNat_natCast, getD_eq hi]
theorem rstR_out {l : List BI} {band : Int} (h : ¬ (0 ≤ band ∧ band < (l.length : Int))) : rstR l band = ([], 2) := by
  unfold rstR
  rw [if_neg h]

theorem in_or {l : List BI} (band : Int) : (∃ i : Nat, band = i ∧ i < l.length) ∨ ¬ (0 ≤ band ∧ band < (l.length : Int)) := by
  by_cases h : 0 ≤ band ∧ band < (l.length : Int)
  · exact .inl ⟨band.toNat, by omega, by omega⟩
  · exact .inr h

theorem keeps_app {l : List BI} {size : Int} (band now : Int) (h : vld l size = true) (hs : size ≤ 9223372036854775807) (h0 : (appR l size band now).2 = 0) : vld (appR l size band now).1 size = true := by
  rcases in_or band (l := l) with ⟨i, rfl, hi⟩ | ho
  · by_cases hu : l[i].used < size
    · rw [appR_in hi hu]
      have := vld_mem h hi
      refine vld_set h ?_
      simp only [appB]
      rw [w64 (by omega) (by omega), w64 (by omega) (by omega)]
      omega
    · rw [appR_full hi (by omega)] at h0
      simp at h0
  · rw [appR_out ho] at h0
    simp at h0
theorem keeps_unl {l : List BI} {size : Int} (band : Int) (h : vld l size = true) (hs : size ≤ 9223372036854775807) (h0 : (unlR l band).2 = 0) : vld (unlR l band).1 size = true := by
  rcases in_or band (l := l) with ⟨i, rfl, hi⟩ | ho
  · by_cases hu : 1 ≤ l[i].live
    · rw [unlR_in hi hu]
      have := vld_mem h hi
      refine vld_set h ?_
      simp only [unlB]
      rw [w64 (by omega) (by omega)]
      omega
    · rw [unlR_none hi (by omega)] at h0
      simp at h0
  · rw [unlR_out ho] at h0
    simp at h0
theorem keeps_rst {l : List BI} {size : Int} (band : Int) (h : vld l size = true) (h0 : (rstR l band).2 = 0) : vld (rstR l band).1 size = true := by
  rcases in_or band (l := l) with ⟨i, rfl, hi⟩ | ho
  · rw [rstR_in hi]
    refine vld_set h ?_
    have := ((vld_iff _ _).1 h).2.2.1
    simp only [rstB]
    omega
  · rw [rstR_out ho] at h0
    simp at h0

/-! sums -/
def sumL : List BI → Int
  | [] => 0
  | b :: l => b.live + sumL l
theorem sumL_append (l m : List BI) : sumL (l ++ m) = sumL l + sumL m := by
  induction l with
  | nil => simp [sumL]
  | cons b l ih => simp [sumL, ih]; omega
theorem sumL_range (l : List BI) (M : Int) (h : ∀ b ∈ l, 0 ≤ b.live ∧ b.live ≤ M) : 0 ≤ sumL l ∧ sumL l ≤ l.length * M := by
  induction l with
  | nil => simp [sumL]
  | cons b l ih =>
    have h1 := ih fun b hb => h b (by simp [hb])
    have h2 := h b (by simp)
    simp only [sumL, List.length_cons]
    have e : ((l.length + 1 : Nat) : Int) * M = (l.length : Int) * M + M := by rw [Int.natCast_add, Int.add_mul]; simp
    rw [e]
    omega
theorem liveTo_sum (l : List BI) (M : Int) (hM : M ≤ 1099511627777) (hl : l.length ≤ 64) (h : ∀ b ∈ l, 0 ≤ b.live ∧ b.live ≤ M) (k : Nat) (hk : k ≤ l.length) : liveTo l k = sumL (l.take k) := by
  induction k with
  | zero => simp [liveTo, sumL]
  | succ k ih =>
    have hlt : k < l.length := by omega
    rw [liveTo, ih (by omega), getD_eq hlt, List.take_succ_eq_append_getElem hlt, sumL_append]
    have h1 := sumL_range (l.take k) M fun b hb => h b (List.mem_of_mem_take hb)
    have h2 := h l[k] (List.getElem_mem hlt)
    have h3 : (l.take k).length = k := by rw [List.length_take]; omega
    rw [h3] at h1
    have h4 : (k : Int) * M ≤ 64 * 1099511627777 := Int.le_trans (Int.mul_le_mul_of_nonneg_left hM (by omega)) (Int.mul_le_mul_of_nonneg_right (by omega) (by omega))
    simp only [sumL, Int.add_zero]
    exact w64 (by omega) (by omega)
theorem sumL_set (l : List BI) (i : Nat) (b : BI) (hi : i < l.length) : sumL (l.set i b) = sumL l - l[i].live + b.live := by
  induction l generalizing i with
  | nil => simp at hi
  | cons c l ih =>
    cases i with
    | zero => simp [sumL]; omega
    | succ i =>
      have := ih i (by simpa using hi)
      simp only [List.set_cons_succ, sumL, List.getElem_cons_succ, this]
      omega
theorem live_sum (l : List BI) (size : Int) (h : vld l size = true) (hs : size ≤ 1099511627776) : liveTo l l.length = sumL l ∧ 0 ≤ sumL l ∧ sumL l ≤ 70368744177728 := by
  obtain ⟨h1, h2, h3, h4⟩ := (vld_iff _ _).1 h
  have hb : ∀ b ∈ l, 0 ≤ b.live ∧ b.live ≤ 1099511627777 := fun b hb => by have := h4 b hb; omega
  have k := liveTo_sum l 1099511627777 (Int.le_refl _) h2 hb l.length (Nat.le_refl _)
  rw [List.take_length] at k
  have hb' : ∀ b ∈ l, 0 ≤ b.live ∧ b.live ≤ 1099511627776 := fun b hb => by have := h4 b hb; omega
  have r := sumL_range l 1099511627776 hb'
  refine ⟨k, r.1, Int.le_trans r.2 ?_⟩
  omega
theorem live_set (l : List BI) (size : Int) (i : Nat) (b : BI) (h : vld l size = true) (hs : size ≤ 1099511627776) (hi : i < l.length) (hb : 0 ≤ b.live ∧ b.live ≤ 1099511627777) :
    liveTo (l.set i b) (l.set i b).length = sumL l - l[i].live + b.live := by
  obtain ⟨h1, h2, h3, h4⟩ := (vld_iff _ _).1 h
  have hq : ∀ x ∈ l.set i b, 0 ≤ x.live ∧ x.live ≤ 1099511627777 := fun x hx => by
    rcases mem_set hx with rfl | hx
    · exact hb
    · have := h4 x hx; omega
  have k := liveTo_sum (l.set i b) 1099511627777 (Int.le_refl _) (by simpa using h2) hq _ (Nat.le_refl _)
  rw [List.take_length] at k
  rw [k, sumL_set l i b hi]
end Go.Proofs.Ytmodhmcpljabcaa
