/- The walk of the law StepsLimits. -/
import Derived.Test.YtkokijmgikdnfaaN
namespace Go.Proofs.Ytkokijmgikdnfaa
open Go.RowKit
set_option linter.unusedVariables false

def oneTo (k : Nat) : List Int := (List.range k).map fun (i : Nat) => (i : Int) + 1
theorem oneTo_succ (k : Nat) : oneTo (k + 1) = oneTo k ++ [(k : Int) + 1] := by simp [oneTo, List.range_succ]
theorem oneTo_length (k : Nat) : (oneTo k).length = k := by simp [oneTo]
theorem oneTo_get (k j : Nat) (h : j < (oneTo k).length) : (oneTo k)[j] = (j : Int) + 1 := by simp [oneTo]
theorem oneTo_nodup (k : Nat) : (oneTo k).Nodup := by
  unfold oneTo List.Nodup
  exact List.pairwise_map.2 ((List.nodup_range (n := k)).imp fun h e => h (by omega))
theorem w64 {n : Int} (h1 : -9223372036854775808 ≤ n) (h2 : n ≤ 9223372036854775807) : wrap64 n = n := by
  unfold wrap64; omega
theorem not_mem_erase {l : List Ent} (hn : (l.map (·.id)).Nodup) {i : Nat} (hi : i < l.length) : ∀ x ∈ l.eraseIdx i, x.id ≠ l[i].id := by
  intro x hx e
  obtain ⟨j, hj, hne, rfl⟩ := List.mem_eraseIdx_iff_getElem.1 hx
  exact hne ((List.getElem_inj (h₀ := by simpa using hj) (h₁ := by simpa using hi) hn).1 (by simpa using e))

/-- a scheduler of k machines with the identifiers from 1 on -/
def Row1 (w : World) (B : Nat) (k : Nat) : Prop := ∃ v l, Sch w B B v l k ∧ l.map (·.id) = oneTo k

/-- 'Add(&job{}, 1)': accepted below 64 -/
theorem addOne {w : World} {B : Nat} {k : Nat} (left n : Int) (hn1 : 1 ≤ n) (hn2 : n ≤ 16) (hk : k < 64) (h : Row1 w B k) (hb : B ≤ w.heap.size) :
    Calls Try.prog 18 #[.pointer (some ⟨B, 0, none⟩), .iface 44 (.pointer (some ⟨w.heap.size, 0, none⟩)), .int .i64 n] (w.alloc (.cells #[.int .i64 left, .int .i64 0] 46)) fun e w' =>
      e = .returned (.tuple #[.int .i64 (k + 1 : Nat), .int .i64 0]) ∧ Row1 w' B (k + 1) ∧ Below B w w' := by
  obtain ⟨v, l, hs, hi⟩ := h
  have hl : l.length = k := by have := congrArg List.length hi; simpa [oneTo_length] using this
  refine (addBox left n hn1 hn2 (by omega) hs hb).mono ?_
  rintro e w' ⟨rfl, v', eb, hs', hk'⟩
  rw [w64 (by omega) (by omega)] at hs' ⊢
  refine ⟨rfl, ⟨v', _, hs', ?_⟩, keep_below0 hk' hb⟩
  rw [List.map_append, hi, oneTo_succ]
  rfl
theorem addMore {w : World} {B : Nat} (left n : Int) (hn1 : 1 ≤ n) (hn2 : n ≤ 16) (h : Row1 w B 64) (hb : B ≤ w.heap.size) :
    Calls Try.prog 18 #[.pointer (some ⟨B, 0, none⟩), .iface 44 (.pointer (some ⟨w.heap.size, 0, none⟩)), .int .i64 n] (w.alloc (.cells #[.int .i64 left, .int .i64 0] 46)) fun e w' =>
      e = .returned (.tuple #[.int .i64 0, .int .i64 7]) ∧ Row1 w' B 64 ∧ Below B w w' := by
  obtain ⟨v, l, hs, hi⟩ := h
  have hl : l.length = 64 := by have := congrArg List.length hi; simpa [oneTo_length] using this
  have hB : Below w.heap.size w (w.alloc (.cells #[.int .i64 left, .int .i64 0] 46)) := (Below.refl _ _).alloc (Nat.le_refl _) _
  refine (addFull w.heap.size n hn1 hn2 (by omega) (by omega) (hs.below hB)).mono ?_
  rintro e w' ⟨rfl, rfl⟩
  exact ⟨rfl, ⟨v, l, hs.below hB, hi⟩, hB.mono hb⟩
/-- the machine 3 goes, once -/
theorem remove3 {w : World} {B : Nat} {k : Nat} (hk : 3 ≤ k) (hk2 : k ≤ 64) (h : Row1 w B k) (hb : B ≤ w.heap.size) :
    Calls Try.prog 21 #[.pointer (some ⟨B, 0, none⟩), .int .i64 3] w fun e w' => e = .returned (.int .i64 0) ∧ (∃ v l, Sch w' B B v l k ∧ l.length + 1 = k ∧ ∀ x ∈ l, x.id ≠ 3) ∧ Below B w w' := by
  obtain ⟨v, l, hs, hi⟩ := h
  have hl : l.length = k := by have := congrArg List.length hi; simpa [oneTo_length] using this
  refine (remove 3 (by omega) hs).mono ?_
  rintro e w' ⟨hr, hk', -⟩
  rcases hr with ⟨i, hi2, hid, -, rfl, v', hs'⟩ | ⟨hno, -, -⟩
  · refine ⟨rfl, ⟨v', _, hs', by rw [List.length_eraseIdx_of_lt hi2]; omega, ?_⟩, keep_below0 hk' hb⟩
    rw [← hid]
    exact not_mem_erase (by rw [hi]; exact oneTo_nodup k) hi2
  · exfalso
    have h2 : 2 < l.length := by omega
    refine hno l[2] (List.getElem_mem h2) ?_
    have : (l.map (·.id))[2]'(by simpa using h2) = (oneTo k)[2]'(by rw [oneTo_length]; omega) := by simp [hi]
    rw [oneTo_get] at this
    simpa using this
theorem remove3no {w : World} {B : Nat} {v : Value} {l : List Ent} {last : Int} (hl : l.length ≤ 64) (h : Sch w B B v l last) (hno : ∀ x ∈ l, x.id ≠ 3) (hb : B ≤ w.heap.size) :
    Calls Try.prog 21 #[.pointer (some ⟨B, 0, none⟩), .int .i64 3] w fun e w' => e = .returned (.int .i64 9) ∧ Sch w' B B v l last ∧ Below B w w' := by
  refine (remove 3 (by omega) h).mono ?_
  rintro e w' ⟨hr, hk', -⟩
  rcases hr with ⟨i, hi2, hid, -⟩ | ⟨-, rfl, hs'⟩
  · exact absurd hid (hno _ (List.getElem_mem hi2))
  · exact ⟨rfl, hs', keep_below0 hk' hb⟩

theorem newAt (w : World) : Calls Try.prog 10 #[] w fun e w' => ∃ S, e = .returned (.pointer (some ⟨S, 0, none⟩)) ∧ Sch w' S S (.slice none 0 0) [] 0 ∧ Below w.heap.size w w' :=
  (new_ w).mono fun e w' ⟨h1, h2, h3⟩ => ⟨_, h1, h2, h3⟩

set_option maxHeartbeats 1000000 in
theorem lawLimits (a n : Int) (w : World) (ha : (Lit.int .u8 a).wf = true) (hn : (Lit.int .i64 n).wf = true) : Calls Try.prog 5 #[.int .u8 a, .int .i64 n] w fun e w' => e = .returned (.bool true) ∧ Below w.heap.size w w' := by
  have ha2 : 0 ≤ a ∧ a ≤ 255 := by simpa [Lit.wf, IntKind.min, IntKind.max, IntKind.signed, IntKind.bits] using ha
  obtain ⟨m, hm⟩ : ∃ m : Nat, Int.tmod a 8 = m := ⟨(a % 8).toNat, by rw [Int.tmod_eq_emod_of_nonneg ha2.1]; omega⟩
  have hm8 : m < 8 := by have := Int.tmod_lt_of_pos a (show (0:Int) < 8 by decide); omega
  clear ha2 ha
  go_enter Try.func5, Try.ntmps5
  go_wp2_with fail
  refine (awake w).mono ?_
  rintro e w1 ⟨rfl, hb1⟩
  have hz1 := hb1.size
  replace hb1 := Lib.hid hb1
  go_wp2_with fail
  refine (new_ w1).mono ?_
  rintro e w2 ⟨rfl, hs2, hb2⟩
  generalize hB : w1.heap.size = B at *
  have hz2 : B ≤ w2.heap.size := by rw [← hB]; exact hb2.size
  have hr2 : Row1 w2 B 0 := ⟨_, [], hs2, rfl⟩
  have hbb := Lib.hid (hb1.out.trans (hb2.mono hz1))
  replace hr2 := Lib.hid hr2
  clear hs2 hb2 hb1 hB
  go_wp2
  go_loopw [26] (fun b w' => ∃ k : Nat, k ≤ 60 + m ∧ b = .int .i64 k ∧ Row1 w' B (min k 64) ∧ Below w.heap.size w w' ∧ B ≤ w'.heap.size) (fun b _ => 60 + m - (intOf b).toNat)
  case atStart => exact ⟨0, Nat.zero_le _, rfl, hr2.out, hbb.out, hz2⟩
  case round =>
    obtain ⟨k, hk, rfl, hr, hB, hz⟩ := hrel
    by_cases hlt : k < 60 + m
    · by_cases h64 : k < 64
      · rw [Nat.min_eq_left (by omega)] at hr
        have hadd := Lib.hid (addOne 0 1 (by omega) (by omega) h64 hr hz)
        have hB2 := Lib.hid hB
        have hk1 : ((k + 1 : Nat) : Int) = (k : Int) + 1 := by omega
        rw [hk1] at hadd
        clear hr hB hk1
        go_wp2_with fail
        refine hadd.out.mono ?_
        rintro e w3 ⟨rfl, hr3, hb3⟩
        have hz3 := hb3.size
        replace hr3 := Lib.hid hr3
        replace hb3 := Lib.hid hb3
        have q1 : (((k : Int) + 1) != (k : Int) + 1) = false := by simp
        have q2 : decide ((k : Int) < 64) = true := decide_eq_true (by omega)
        have q3 : decide ((k : Int) ≥ 64) = false := decide_eq_false (by omega)
        go_wp2
        go_roundw
        case rel => exact ⟨k + 1, by omega, by go_num, by rw [Nat.min_eq_left (by omega)]; exact hr3.out, hB2.out.trans (hb3.out.mono hz1), Nat.le_trans hz hz3⟩
        case measure => simp [intOf]; omega
      · rw [Nat.min_eq_right (by omega)] at hr
        have hadd := Lib.hid (addMore 0 1 (by omega) (by omega) hr hz)
        have hB2 := Lib.hid hB
        clear hr hB
        go_wp2_with fail
        refine hadd.out.mono ?_
        rintro e w3 ⟨rfl, hr3, hb3⟩
        have hz3 := hb3.size
        replace hr3 := Lib.hid hr3
        replace hb3 := Lib.hid hb3
        have q2 : decide ((k : Int) < 64) = false := decide_eq_false (by omega)
        have q3 : decide ((k : Int) ≥ 64) = true := decide_eq_true (by omega)
        go_wp2
        go_roundw
        case rel => exact ⟨k + 1, by omega, by go_num, by rw [Nat.min_eq_right (by omega)]; exact hr3.out, hB2.out.trans (hb3.out.mono hz1), Nat.le_trans hz hz3⟩
        case measure => simp [intOf]; omega
    · obtain rfl : k = 60 + m := by omega
      clear hbb hr2 hz2
      obtain ⟨L, hL, hL3, hL64⟩ : ∃ L, L = min (60 + m) 64 ∧ 60 ≤ L ∧ L ≤ 64 := ⟨_, rfl, by omega, by omega⟩
      rw [← hL] at hr
      have hrem := Lib.hid (remove3 (by omega) hL64 hr hz)
      have hB2 := Lib.hid hB
      clear hr hB
      go_wp2_with fail
      refine hrem.out.mono ?_
      rintro e w3 ⟨rfl, ⟨v3, l3, hs3, hl3, hno⟩, hb3⟩
      have hz3 : B ≤ w3.heap.size := Nat.le_trans hz hb3.size
      have hrem2 := Lib.hid (remove3no (by omega) hs3 hno hz3)
      have hB3 := Lib.hid (hB2.out.trans (hb3.mono hz1))
      clear hs3 hno hb3 hrem hB2
      go_wp2_with fail
      refine hrem2.out.mono ?_
      rintro e w4 ⟨rfl, hs4, hb4⟩
      have hz4 : B ≤ w4.heap.size := Nat.le_trans hz3 hb4.size
      have hB4 := Lib.hid (hB3.out.trans (hb4.mono hz1))
      have hnone := Lib.hid (addNone 1 hs4)
      have hs4h := Lib.hid hs4
      clear hs4 hb4 hrem2 hB3
      go_wp2_with fail
      refine hnone.out.mono ?_
      rintro e w5 ⟨rfl, rfl⟩
      clear hnone
      have hmL : min (64 : Int) (60 + m) = L := by omega
      have hbx : Below w5.heap.size w5 (w5.alloc (.cells #[.int .i64 0, .int .i64 0] 46)) := (Below.refl _ _).alloc (Nat.le_refl _) _
      by_cases hw : n < 1 ∨ 16 < n
      · have harg := Lib.hid (addArg w5.heap.size n hw (hs4h.out.below hbx))
        have hB5 := Lib.hid (hB4.out.trans (hbx.mono (Nat.le_trans hz1 hz4)))
        have hneg := Lib.hid (pickNeg (-1) (by decide) (by omega) (by omega) (hs4h.out.below hbx))
        clear hs4h hB4 hbx
        go_wp2_with fail
        refine harg.out.mono ?_
        rintro e w6 ⟨rfl, rfl⟩
        go_wp2_with fail
        refine hneg.out.mono ?_
        rintro e w7 ⟨rfl, rfl⟩
        go_wp2_with fail
        refine (newAt _).mono ?_
        rintro e w8 ⟨S8, rfl, hs8, hb8⟩
        have hB8 := Lib.hid (hB5.out.trans (hb8.mono (by have := hB5.out.size; omega)))
        have hpn := Lib.hid (pickNone (-1) hs8)
        clear hs8 hb8 hB5
        go_wp2_with fail
        refine hpn.out.mono ?_
        rintro e w9 ⟨rfl, rfl⟩
        clear hpn harg hneg
        rcases hw with hw | hw
        · have q1 : decide (n < 1) = true := decide_eq_true hw
          go_wp2
          go_ret
          exact ⟨rfl, hB8.out⟩
        · have q1 : decide (n < 1) = false := decide_eq_false (by omega)
          have q2 : decide (n > 16) = true := decide_eq_true hw
          go_wp2
          go_ret
          exact ⟨rfl, hB8.out⟩
      · have h1 : 1 ≤ n := by omega
        have h2 : n ≤ 16 := by omega
        have q1 : decide (n < 1) = false := decide_eq_false (by omega)
        have q2 : decide (n > 16) = false := decide_eq_false (by omega)
        have hadd := Lib.hid (addBox 0 n h1 h2 (by omega) hs4h.out hz4)
        have hwl : wrap64 ((L : Int) + 1) = (L : Int) + 1 := w64 (by omega) (by omega)
        rw [hwl] at hadd
        clear hwl hw hs4h hbx
        go_wp2_with fail
        refine hadd.out.mono ?_
        rintro e w6 ⟨rfl, v6, eb, hs6, hk6⟩
        have hB6 := Lib.hid (hB4.out.trans ((keep_below0 hk6 hz4).mono hz1))
        have hneg := Lib.hid (pickNeg (-1) (by decide) (by simp) (by simp; omega) hs6)
        clear hs6 hk6 hadd hB4
        go_wp2_with fail
        refine hneg.out.mono ?_
        rintro e w7 ⟨rfl, rfl⟩
        go_wp2_with fail
        refine (newAt _).mono ?_
        rintro e w8 ⟨S8, rfl, hs8, hb8⟩
        have hB8 := Lib.hid (hB6.out.trans (hb8.mono (by have := hB6.out.size; omega)))
        have hpn := Lib.hid (pickNone (-1) hs8)
        clear hs8 hb8 hB6
        go_wp2_with fail
        refine hpn.out.mono ?_
        rintro e w9 ⟨rfl, rfl⟩
        clear hpn hneg
        have q3 : (((L : Int) + 1) == (L : Int) + 1) = true := by simp
        go_wp2
        go_ret
        exact ⟨rfl, hB8.out⟩
end Go.Proofs.Ytkokijmgikdnfaa
