/- One contract for every state: Append, Unlink, Reset, of the program and of the reference. -/
import Derived.Test.YtmodhmcpljabcaaM
namespace Go.Proofs.Ytmodhmcpljabcaa
open Go.RowKit
set_option linter.unusedVariables false

/-- list and error code that Append, Unlink, Reset return -/
def appR (l : List BI) (size band now : Int) : List BI × Int :=
  if 0 ≤ band ∧ band < l.length then (if size ≤ (l.getD band.toNat zb).used then ([], 11) else (l.set band.toNat (appB now (l.getD band.toNat zb)), 0)) else ([], 2)
def unlR (l : List BI) (band : Int) : List BI × Int :=
  if 0 ≤ band ∧ band < l.length then (if (l.getD band.toNat zb).live < 1 then ([], 8) else (l.set band.toNat (unlB (l.getD band.toNat zb)), 0)) else ([], 2)
def rstR (l : List BI) (band : Int) : List BI × Int :=
  if 0 ≤ band ∧ band < l.length then (l.set band.toNat (rstB (l.getD band.toNat zb)), 0) else ([], 2)

/-- What a call that returns a list and an error comes to. -/
def Gives (r : List BI × Int) (w : World) (e : Ending) (w' : World) : Prop := ∃ A c, e = .returned (.tuple #[.slice A r.1.length c, .int .i64 r.2]) ∧ Bs w' A r.1 ∧ Below w.heap.size w w'
theorem Gives.nil {n : Int} {w w' : World} {e : Ending} (h : e = .returned (.tuple #[.slice none 0 0, .int .i64 n])) (hb : Below w.heap.size w w') : Gives ([], n) w e w' := ⟨none, 0, h, Bs.nil _ _, hb⟩
theorem Gives.row {l : List BI} {w w' : World} {e : Ending} (h : ∃ v, e = .returned (.tuple #[v, .int .i64 0]) ∧ Own w' w.heap.size v l ∧ Below w.heap.size w w') : Gives (l, 0) w e w' := by
  obtain ⟨v, rfl, ho, hb⟩ := h
  obtain ⟨A, c, rfl, hB, _⟩ := ho.slice
  exact ⟨A, c, rfl, hB, hb⟩
theorem appR_len (l : List BI) (size band now : Int) : (appR l size band now).1.length ≤ l.length := by
  unfold appR
  split
  · split <;> simp
  · simp
theorem unlR_len (l : List BI) (band : Int) : (unlR l band).1.length ≤ l.length := by
  unfold unlR
  split
  · split <;> simp
  · simp
theorem rstR_len (l : List BI) (band : Int) : (rstR l band).1.length ≤ l.length := by
  unfold rstR
  split <;> simp

theorem bandAppend_any (A : Option Addr) (c : Nat) (l : List BI) (size band now : Int) (w : World) (hl : l.length ≤ 1000) (h : Bs w A l) :
    Calls Try.prog 17 #[.slice A l.length c, .int .i64 size, .int .i64 band, .int .u64 now] w (Gives (appR l size band now) w) := by
  by_cases hr : 0 ≤ band ∧ band < (l.length : Int)
  · obtain ⟨i, rfl⟩ : ∃ i : Nat, band = i := ⟨band.toNat, by omega⟩
    have hi : i < l.length := by omega
    by_cases ht : size ≤ l[i].used
    · have e : appR l size i now = ([], 11) := by
        unfold appR
        rw [if_pos hr, Int.toNat_natCast, getD_eq hi, if_pos ht]
      rw [e]
      exact (bandAppend_no A c l size i now w hl h hi ht).mono fun _ _ ⟨he, hb⟩ => Gives.nil he hb
    · have e : appR l size i now = (l.set i (appB now l[i]), 0) := by
        unfold appR
        rw [if_pos hr, Int.toNat_natCast, getD_eq hi, if_neg ht]
      rw [e]
      exact (bandAppend_ok A c l size i now w hl h hi (by omega)).mono fun _ _ h => Gives.row h
  · have e : appR l size band now = ([], 2) := by
      unfold appR
      rw [if_neg hr]
    rw [e]
    exact (bandAppend_range A c l size band now w hl h (by omega)).mono fun _ _ ⟨he, hb⟩ => Gives.nil he hb

theorem refAppend_any (A : Option Addr) (c : Nat) (l : List BI) (size band now : Int) (w : World) (hl : l.length ≤ 1000) (h : Bs w A l) :
    Calls Try.prog 18 #[.slice A l.length c, .int .i64 size, .int .i64 band, .int .u64 now] w (Gives (appR l size band now) w) := by
  by_cases hr : 0 ≤ band ∧ band < (l.length : Int)
  · obtain ⟨i, rfl⟩ : ∃ i : Nat, band = i := ⟨band.toNat, by omega⟩
    have hi : i < l.length := by omega
    by_cases ht : size ≤ l[i].used
    · have e : appR l size i now = ([], 11) := by
        unfold appR
        rw [if_pos hr, Int.toNat_natCast, getD_eq hi, if_pos ht]
      rw [e]
      exact (refAppend_no A c l size i now w hl h hi ht).mono fun _ _ ⟨he, hb⟩ => Gives.nil he hb
    · have e : appR l size i now = (l.set i (appB now l[i]), 0) := by
        unfold appR
        rw [if_pos hr, Int.toNat_natCast, getD_eq hi, if_neg ht]
      rw [e]
      exact (refAppend_ok A c l size i now w hl h hi (by omega)).mono fun _ _ h => Gives.row h
  · have e : appR l size band now = ([], 2) := by
      unfold appR
      rw [if_neg hr]
    rw [e]
    exact (refAppend_range A c l size band now w hl (by omega)).mono fun _ _ ⟨he, hb⟩ => Gives.nil he hb

theorem bandUnlink_any (A : Option Addr) (c : Nat) (l : List BI) (band : Int) (w : World) (hl : l.length ≤ 1000) (h : Bs w A l) :
    Calls Try.prog 20 #[.slice A l.length c, .int .i64 band] w (Gives (unlR l band) w) := by
  by_cases hr : 0 ≤ band ∧ band < (l.length : Int)
  · obtain ⟨i, rfl⟩ : ∃ i : Nat, band = i := ⟨band.toNat, by omega⟩
    have hi : i < l.length := by omega
    by_cases ht : l[i].live < 1
    · have e : unlR l i = ([], 8) := by
        unfold unlR
        rw [if_pos hr, Int.toNat_natCast, getD_eq hi, if_pos ht]
      rw [e]
      exact (bandUnlink_no A c l i w hl h hi ht).mono fun _ _ ⟨he, hb⟩ => Gives.nil he hb
    · have e : unlR l i = (l.set i (unlB l[i]), 0) := by
        unfold unlR
        rw [if_pos hr, Int.toNat_natCast, getD_eq hi, if_neg ht]
      rw [e]
      exact (bandUnlink_ok A c l i w hl h hi (by omega)).mono fun _ _ h => Gives.row h
  · have e : unlR l band = ([], 2) := by
      unfold unlR
      rw [if_neg hr]
    rw [e]
    exact (bandUnlink_range A c l band w hl h (by omega)).mono fun _ _ ⟨he, hb⟩ => Gives.nil he hb

theorem refUnlink_any (A : Option Addr) (c : Nat) (l : List BI) (band : Int) (w : World) (hl : l.length ≤ 1000) (h : Bs w A l) :
    Calls Try.prog 21 #[.slice A l.length c, .int .i64 band] w (Gives (unlR l band) w) := by
  by_cases hr : 0 ≤ band ∧ band < (l.length : Int)
  · obtain ⟨i, rfl⟩ : ∃ i : Nat, band = i := ⟨band.toNat, by omega⟩
    have hi : i < l.length := by omega
    by_cases ht : l[i].live < 1
    · have e : unlR l i = ([], 8) := by
        unfold unlR
        rw [if_pos hr, Int.toNat_natCast, getD_eq hi, if_pos ht]
      rw [e]
      exact (refUnlink_no A c l i w hl h hi ht).mono fun _ _ ⟨he, hb⟩ => Gives.nil he hb
    · have e : unlR l i = (l.set i (unlB l[i]), 0) := by
        unfold unlR
        rw [if_pos hr, Int.toNat_natCast, getD_eq hi, if_neg ht]
      rw [e]
      exact (refUnlink_ok A c l i w hl h hi (by omega)).mono fun _ _ h => Gives.row h
  · have e : unlR l band = ([], 2) := by
      unfold unlR
      rw [if_neg hr]
    rw [e]
    exact (refUnlink_range A c l band w hl (by omega)).mono fun _ _ ⟨he, hb⟩ => Gives.nil he hb

theorem bandReset_any (A : Option Addr) (c : Nat) (l : List BI) (band : Int) (w : World) (hl : l.length ≤ 1000) (h : Bs w A l) :
    Calls Try.prog 22 #[.slice A l.length c, .int .i64 band] w (Gives (rstR l band) w) := by
  by_cases hr : 0 ≤ band ∧ band < (l.length : Int)
  · obtain ⟨i, rfl⟩ : ∃ i : Nat, band = i := ⟨band.toNat, by omega⟩
    have hi : i < l.length := by omega
    have e : rstR l i = (l.set i (rstB l[i]), 0) := by
      unfold rstR
      rw [if_pos hr, Int.toNat_natCast, getD_eq hi]
    rw [e]
    exact (bandReset_ok A c l i w hl h hi).mono fun _ _ h => Gives.row h
  · have e : rstR l band = ([], 2) := by
      unfold rstR
      rw [if_neg hr]
    rw [e]
    exact (bandReset_range A c l band w hl h (by omega)).mono fun _ _ ⟨he, hb⟩ => Gives.nil he hb

theorem refReset_any (A : Option Addr) (c : Nat) (l : List BI) (band : Int) (w : World) (hl : l.length ≤ 1000) (h : Bs w A l) :
    Calls Try.prog 23 #[.slice A l.length c, .int .i64 band] w (Gives (rstR l band) w) := by
  by_cases hr : 0 ≤ band ∧ band < (l.length : Int)
  · obtain ⟨i, rfl⟩ : ∃ i : Nat, band = i := ⟨band.toNat, by omega⟩
    have hi : i < l.length := by omega
    have e : rstR l i = (l.set i (rstB l[i]), 0) := by
      unfold rstR
      rw [if_pos hr, Int.toNat_natCast, getD_eq hi]
    rw [e]
    exact (refReset_ok A c l i w hl h hi).mono fun _ _ h => Gives.row h
  · have e : rstR l band = ([], 2) := by
      unfold rstR
      rw [if_neg hr]
    rw [e]
    exact (refReset_range A c l band w hl (by omega)).mono fun _ _ ⟨he, hb⟩ => Gives.nil he hb
end Go.Proofs.Ytmodhmcpljabcaa
