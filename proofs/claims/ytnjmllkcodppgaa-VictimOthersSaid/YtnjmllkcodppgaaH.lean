/- The choice, as a function of lists; contract of Candidate. -/
import Derived.Test.YtnjmllkcodppgaaG
namespace Go.Proofs.Ytnjmllkcodppgaa
open Go.RowKit
set_option linter.unusedVariables false

theorem getD_eq {l : List BI} {i : Nat} (h : i < l.length) : l.getD i zb = l[i] := by
  rw [List.getD_eq_getElem?_getD, get_some h, Option.getD_some]

def cand (b : BI) (size opn i : Int) : Bool := (i != opn) && (decide (0 < b.used) && decide (b.live < size))
/-- is a the one to take rather than b -/
def wins (a b : BI) (size now : Int) : Bool := betS a b size now || (!betS b a size now && decide (a.wear < b.wear))
def chStep (l : List BI) (size now opn best : Int) (i : Nat) : Int :=
  if cand (l.getD i zb) size opn i = true ∧ (best < 0 ∨ wins (l.getD i zb) (l.getD best.toNat zb) size now = true) then (i : Int) else best
def chTo (l : List BI) (size now opn : Int) : Nat → Int
  | 0 => -1
  | k + 1 => chStep l size now opn (chTo l size now opn k) k
/-- index and error of Choose -/
def chooseR (l : List BI) (size now opn : Int) : Int × Int :=
  if vld l size = true ∧ size ≤ 1048576 then (if chTo l size now opn l.length < 0 then (0, 9) else (chTo l size now opn l.length, 0)) else (0, 1)

theorem chTo_range (l : List BI) (size now opn : Int) (k : Nat) : -1 ≤ chTo l size now opn k ∧ chTo l size now opn k < k := by
  induction k with
  | zero => simp [chTo]
  | succ k ih =>
    simp only [chTo, chStep]
    split <;> omega

section
variable {l : List BI} {size now opn : Int} {k : Nat}
theorem ch_no (h : k < l.length) (hc : cand l[k] size opn k = false) : chTo l size now opn (k + 1) = chTo l size now opn k := by
  simp only [chTo, chStep, getD_eq h]
  rw [if_neg (by rw [hc]; simp)]
theorem ch_first (h : k < l.length) (hc : cand l[k] size opn k = true) (hb : chTo l size now opn k < 0) : chTo l size now opn (k + 1) = k := by
  simp only [chTo, chStep, getD_eq h]
  rw [if_pos ⟨hc, .inl hb⟩]
theorem ch_take {j : Nat} (h : k < l.length) (hj : j < l.length) (hc : cand l[k] size opn k = true) (hb : chTo l size now opn k = j) (hw : wins l[k] l[j] size now = true) : chTo l size now opn (k + 1) = k := by
  simp only [chTo, chStep, getD_eq h, hb, Int.toNat_natCast, getD_eq hj]
  rw [if_pos ⟨hc, .inr hw⟩]
theorem ch_keep {j : Nat} (h : k < l.length) (hj : j < l.length) (hb : chTo l size now opn k = j) (hw : wins l[k] l[j] size now = false) : chTo l size now opn (k + 1) = j := by
  simp only [chTo, chStep, getD_eq h, hb, Int.toNat_natCast, getD_eq hj]
  rw [if_neg]
  rintro ⟨_, h | h⟩
  · omega
  · rw [hw] at h; cases h
end

set_option maxHeartbeats 1000000 in
theorem rCand (A : Option Addr) (c : Nat) (l : List BI) (size opn : Int) (i : Nat) (w : World) (hl : l.length ≤ 1000) (h : Bs w A l) (hi : i < l.length) :
    Calls Try.prog 15 #[.slice A l.length c, .int .i64 size, .int .i64 opn, .int .i64 i] w fun e w' => e = .returned (.bool (cand l[i] size opn i)) ∧ w' = w := by
  have hl0 : l.length ≤ 9223372036854775807 := by omega
  obtain ⟨ad, rfl, c0, c1, c2, c3⟩ := h.at_ hi
  have hd : cand l[i] size opn i = (((i : Int) != opn) && (decide (0 < l[i].used) && decide (l[i].live < size))) := rfl
  cases d1 : ((i : Int) != opn) with
  | false =>
    have hv := Lib.hid (show cand l[i] size opn i = false by rw [hd, d1]; rfl)
    clear hd
    go_enter Try.func15, Try.ntmps15
    go_wp2
    go_ret
    exact ⟨by rw [hv.out]; rfl, rfl⟩
  | true =>
    by_cases h2 : 0 < l[i].used
    · have d2 : decide (0 < l[i].used) = true := decide_eq_true h2
      have hv := Lib.hid (show cand l[i] size opn i = decide (l[i].live < size) by rw [hd, d1, d2]; rfl)
      clear hd h2
      go_enter Try.func15, Try.ntmps15
      go_wp2
      go_ret
      exact ⟨by rw [hv.out]; rfl, rfl⟩
    · have d2 : decide (0 < l[i].used) = false := decide_eq_false h2
      have hv := Lib.hid (show cand l[i] size opn i = false by rw [hd, d1, d2]; rfl)
      clear hd h2
      go_enter Try.func15, Try.ntmps15
      go_wp2
      go_ret
      exact ⟨by rw [hv.out]; rfl, rfl⟩
end Go.Proofs.Ytnjmllkcodppgaa
