/- Contracts of over, of victim.Better, of less and of tegularef18.Better. -/
import Derived.Test.YtnjmllkcodppgaaD
namespace Go.Proofs.Ytnjmllkcodppgaa
open Go.RowKit
set_option linter.unusedVariables false

/-- A call that only makes memory keeps whatever is kept by new memory. -/
theorem callK {S : World → Prop} {f : FuncId} {args : Array Value} {v : Value} (hS : ∀ w w', S w → Below w.heap.size w w' → S w') (hcall : ∀ w, S w → Calls Try.prog f args w fun e w' => e = .returned v ∧ Below w.heap.size w w') {w : World} (h : S w) :
    Calls Try.prog f args w fun e w' => e = .returned v ∧ S w' := (hcall w h).mono fun e w' ⟨he, hb⟩ => ⟨he, hS _ _ h hb⟩

theorem over_cases {a b : BI} {size now : Int} (ha : fitsS a = true) (hb : fitsS b = true) (hs : sizeS size = true) :
    (a.live ≤ size → size < b.live → decide (num b size now * den a size < num a size now * den b size) = true) ∧
    (size < a.live → b.live ≤ size → decide (num b size now * den a size < num a size now * den b size) = false) := by
  have da := den_pos ha hs
  have db := den_pos hb hs
  constructor
  · intro h1 h2
    have n1 := num_pos (now := now) h1
    have n2 := num_neg (now := now) h2
    have k1 : num b size now * den a size < 0 := Int.mul_neg_of_neg_of_pos n2 (by omega)
    have k2 : 0 ≤ num a size now * den b size := Int.mul_nonneg n1 (by omega)
    exact decide_eq_true (by omega)
  · intro h1 h2
    have n1 := num_neg (now := now) h1
    have n2 := num_pos (now := now) h2
    have k1 : 0 ≤ num b size now * den a size := Int.mul_nonneg n2 (by omega)
    have k2 : num a size now * den b size < 0 := Int.mul_neg_of_neg_of_pos n1 (by omega)
    exact decide_eq_false (by omega)

set_option maxHeartbeats 4000000 in
theorem vOver (a b : BI) (size now : Int) (w : World) (ha : fitsS a = true) (hb : fitsS b = true) (hs : sizeS size = true) (ga : u64 a.age) (gb : u64 b.age) (gn : u64 now) (hov : size < a.live ∨ size < b.live) :
    Calls Try.prog 17 #[.agg #[.int .i64 a.used, .int .i64 a.live, .int .u64 a.age, .int .u64 a.wear], .agg #[.int .i64 b.used, .int .i64 b.live, .int .u64 b.age, .int .u64 b.wear], .int .i64 size, .int .u64 now] w fun e w' => e = .returned (.bool (decide (num b size now * den a size < num a size now * den b size))) ∧ Below w.heap.size w w' := by
  obtain ⟨o1, o2⟩ := over_cases (now := now) ha hb hs
  have da := den_pos ha hs
  have db := den_pos hb hs
  have fa := (fits_iff a).1 ha
  have fb := (fits_iff b).1 hb
  have fs := (size_iff size).1 hs
  have hB0 : Below w.heap.size w ((w.alloc (.cells #[.int .i64 a.used, .int .i64 a.live, .int .u64 a.age, .int .u64 a.wear] 24)).alloc (.cells #[.int .i64 b.used, .int .i64 b.live, .int .u64 b.age, .int .u64 b.wear] 24)) := ((Below.refl _ _).alloc (Nat.le_refl _) _).alloc (by simp) _
  have xa := (heap_alloc_new w (.cells #[.int .i64 a.used, .int .i64 a.live, .int .u64 a.age, .int .u64 a.wear] 24))
  have xb := (heap_alloc_new (w.alloc (.cells #[.int .i64 a.used, .int .i64 a.live, .int .u64 a.age, .int .u64 a.wear] 24)) (.cells #[.int .i64 b.used, .int .i64 b.live, .int .u64 b.age, .int .u64 b.wear] 24))
  have ca : At ((w.alloc (.cells #[.int .i64 a.used, .int .i64 a.live, .int .u64 a.age, .int .u64 a.wear] 24)).alloc (.cells #[.int .i64 b.used, .int .i64 b.live, .int .u64 b.age, .int .u64 b.wear] 24)) ⟨w.heap.size, 0, none⟩ a := ⟨cell_alloc (cell_of_row _ _ 0 _ _ _ xa) _, cell_alloc (cell_of_row _ _ 1 _ _ _ xa) _, cell_alloc (cell_of_row _ _ 2 _ _ _ xa) _, cell_alloc (cell_of_row _ _ 3 _ _ _ xa) _⟩
  have cb : At ((w.alloc (.cells #[.int .i64 a.used, .int .i64 a.live, .int .u64 a.age, .int .u64 a.wear] 24)).alloc (.cells #[.int .i64 b.used, .int .i64 b.live, .int .u64 b.age, .int .u64 b.wear] 24)) ⟨w.heap.size + 1, 0, none⟩ b := by
    have e : w.heap.size + 1 = (w.alloc (.cells #[.int .i64 a.used, .int .i64 a.live, .int .u64 a.age, .int .u64 a.wear] 24)).heap.size := by simp
    rw [e]
    exact ⟨cell_of_row _ _ 0 _ _ _ xb, cell_of_row _ _ 1 _ _ _ xb, cell_of_row _ _ 2 _ _ _ xb, cell_of_row _ _ 3 _ _ _ xb⟩
  clear xa xb
  by_cases h1 : a.live ≤ size
  · have hv := Lib.hid (o1 h1 (by omega))
    clear o1 o2
    generalize decide (num b size now * den a size < num a size now * den b size) = r at *
    go_enter Try.func17, Try.ntmps17
    go_wp2
    go_ret
    exact ⟨by rw [hv.out]; rfl, hB0⟩
  · have h1' : size < a.live := by omega
    by_cases h2 : b.live ≤ size
    · have hv := Lib.hid (o2 h1' h2)
      clear o1 o2
      generalize decide (num b size now * den a size < num a size now * den b size) = r at *
      go_enter Try.func17, Try.ntmps17
      go_wp2
      go_ret
      exact ⟨by rw [hv.out]; rfl, hB0⟩
    · have h2' : size < b.live := by omega
      clear o1 o2 hov
      have ea := age_range a now
      have eb := age_range b now
      have ra := mul_range (a := ageS a now + 1) (b := a.live - size) (A := 1099511627777) (B := 1048576) (by omega) (by omega) (by omega) (by omega)
      have rb := mul_range (a := ageS b now + 1) (b := b.live - size) (A := 1099511627777) (B := 1048576) (by omega) (by omega) (by omega) (by omega)
      have HL := lex_div (lossN a size now * den b size) (lossN b size now * den a size) 18446744073709551616 (by omega)
      have e1 : decide (lossN a size now * den b size < lossN b size now * den a size) = decide (num b size now * den a size < num a size now * den b size) := by
        rw [lossN_num, lossN_num, Int.neg_mul, Int.neg_mul]
        congr 1
        apply propext
        omega
      rw [e1] at HL
      clear e1
      have ra' : 0 ≤ lossN a size now ∧ lossN a size now < 18446744073709551616 := ⟨ra.1, by have := ra.2; unfold lossN; omega⟩
      have rb' : 0 ≤ lossN b size now ∧ lossN b size now < 18446744073709551616 := ⟨rb.1, by have := rb.2; unfold lossN; omega⟩
      have hm1 := Lib.hid (fun W => mul64I (lossN a size now) (den b size) ra' (by omega) W)
      have hm2 := Lib.hid (fun W => mul64I (lossN b size now) (den a size) rb' (by omega) W)
      have hl1 := Lib.hid (fun W => vLoss a size now W ga gn (by omega) (by omega))
      have hl2 := Lib.hid (fun W => vLoss b size now W gb gn (by omega) (by omega))
      clear ra rb ra' rb' ea eb fa fb fs da db
      generalize decide (num b size now * den a size < num a size now * den b size) = r at *
      generalize lossN a size now * den b size / 18446744073709551616 = h at *
      generalize lossN a size now * den b size % 18446744073709551616 = l at *
      generalize lossN b size now * den a size / 18446744073709551616 = k at *
      generalize lossN b size now * den a size % 18446744073709551616 = m at *
      generalize lossN a size now = la at *
      generalize lossN b size now = lb at *
      generalize den a size = da at *
      generalize den b size = db at *
      have HL2 := HL
      replace HL := Lib.hid HL
      obtain ⟨ca0, ca1, ca2, ca3⟩ := id ca
      obtain ⟨cb0, cb1, cb2, cb3⟩ := id cb
      by_cases q1 : h < k
      · have d1 : decide (h < k) = true := decide_eq_true q1
        clear q1
        have hv := Lib.hid (show lexB h l k m = true by unfold lexB; simp [d1])
        clear HL2
        go_enter Try.func17, Try.ntmps17
        go_wp2_with fail
        refine (hl1.out _).mono ?_
        rintro e w1 ⟨rfl, hb1⟩
        clear ca0 ca1 ca2 ca3 cb0 cb1 cb2 cb3
        replace ca := ca.below hb1
        replace cb := cb.below hb1
        replace hB0 := below_then hB0 hB0.size hb1
        clear hb1
        obtain ⟨ca0, ca1, ca2, ca3⟩ := id ca
        obtain ⟨cb0, cb1, cb2, cb3⟩ := id cb
        go_wp2_with fail
        refine (hl2.out _).mono ?_
        rintro e w2 ⟨rfl, hb1⟩
        clear ca0 ca1 ca2 ca3 cb0 cb1 cb2 cb3
        replace ca := ca.below hb1
        replace cb := cb.below hb1
        replace hB0 := below_then hB0 hB0.size hb1
        clear hb1
        obtain ⟨ca0, ca1, ca2, ca3⟩ := id ca
        obtain ⟨cb0, cb1, cb2, cb3⟩ := id cb
        go_wp2_with fail
        refine (hm1.out _).mono ?_
        rintro e w3 ⟨rfl, rfl⟩
        go_wp2_with fail
        refine (hm2.out _).mono ?_
        rintro e w4 ⟨rfl, rfl⟩
        go_wp2
        go_ret
        exact ⟨by rw [← HL.out, hv.out]; rfl, hB0⟩
      · have d1 : decide (h < k) = false := decide_eq_false q1
        clear q1
        by_cases q2 : h = k
        · have d2 : (h == k) = true := beq_iff_eq.2 q2
          clear q2
          by_cases q3 : l < m
          · have d3 : decide (l < m) = true := decide_eq_true q3
            clear q3
            have hv := Lib.hid (show lexB h l k m = true by unfold lexB; simp [d1, d2, d3])
            clear HL2
            go_enter Try.func17, Try.ntmps17
            go_wp2_with fail
            refine (hl1.out _).mono ?_
            rintro e w1 ⟨rfl, hb1⟩
            clear ca0 ca1 ca2 ca3 cb0 cb1 cb2 cb3
            replace ca := ca.below hb1
            replace cb := cb.below hb1
            replace hB0 := below_then hB0 hB0.size hb1
            clear hb1
            obtain ⟨ca0, ca1, ca2, ca3⟩ := id ca
            obtain ⟨cb0, cb1, cb2, cb3⟩ := id cb
            go_wp2_with fail
            refine (hl2.out _).mono ?_
            rintro e w2 ⟨rfl, hb1⟩
            clear ca0 ca1 ca2 ca3 cb0 cb1 cb2 cb3
            replace ca := ca.below hb1
            replace cb := cb.below hb1
            replace hB0 := below_then hB0 hB0.size hb1
            clear hb1
            obtain ⟨ca0, ca1, ca2, ca3⟩ := id ca
            obtain ⟨cb0, cb1, cb2, cb3⟩ := id cb
            go_wp2_with fail
            refine (hm1.out _).mono ?_
            rintro e w3 ⟨rfl, rfl⟩
            go_wp2_with fail
            refine (hm2.out _).mono ?_
            rintro e w4 ⟨rfl, rfl⟩
            go_wp2
            go_ret
            exact ⟨by rw [← HL.out, hv.out]; rfl, hB0⟩
          · have d3 : decide (l < m) = false := decide_eq_false q3
            clear q3
            have hv := Lib.hid (show lexB h l k m = false by unfold lexB; simp [d1, d2, d3])
            clear HL2
            go_enter Try.func17, Try.ntmps17
            go_wp2_with fail
            refine (hl1.out _).mono ?_
            rintro e w1 ⟨rfl, hb1⟩
            clear ca0 ca1 ca2 ca3 cb0 cb1 cb2 cb3
            replace ca := ca.below hb1
            replace cb := cb.below hb1
            replace hB0 := below_then hB0 hB0.size hb1
            clear hb1
            obtain ⟨ca0, ca1, ca2, ca3⟩ := id ca
            obtain ⟨cb0, cb1, cb2, cb3⟩ := id cb
            go_wp2_with fail
            refine (hl2.out _).mono ?_
            rintro e w2 ⟨rfl, hb1⟩
            clear ca0 ca1 ca2 ca3 cb0 cb1 cb2 cb3
            replace ca := ca.below hb1
            replace cb := cb.below hb1
            replace hB0 := below_then hB0 hB0.size hb1
            clear hb1
            obtain ⟨ca0, ca1, ca2, ca3⟩ := id ca
            obtain ⟨cb0, cb1, cb2, cb3⟩ := id cb
            go_wp2_with fail
            refine (hm1.out _).mono ?_
            rintro e w3 ⟨rfl, rfl⟩
            go_wp2_with fail
            refine (hm2.out _).mono ?_
            rintro e w4 ⟨rfl, rfl⟩
            go_wp2
            go_ret
            exact ⟨by rw [← HL.out, hv.out]; rfl, hB0⟩
        · have d2 : (h == k) = false := beq_eq_false_iff_ne.2 q2
          clear q2
          have hv := Lib.hid (show lexB h l k m = false by unfold lexB; simp [d1, d2])
          clear HL2
          go_enter Try.func17, Try.ntmps17
          go_wp2_with fail
          refine (hl1.out _).mono ?_
          rintro e w1 ⟨rfl, hb1⟩
          clear ca0 ca1 ca2 ca3 cb0 cb1 cb2 cb3
          replace ca := ca.below hb1
          replace cb := cb.below hb1
          replace hB0 := below_then hB0 hB0.size hb1
          clear hb1
          obtain ⟨ca0, ca1, ca2, ca3⟩ := id ca
          obtain ⟨cb0, cb1, cb2, cb3⟩ := id cb
          go_wp2_with fail
          refine (hl2.out _).mono ?_
          rintro e w2 ⟨rfl, hb1⟩
          clear ca0 ca1 ca2 ca3 cb0 cb1 cb2 cb3
          replace ca := ca.below hb1
          replace cb := cb.below hb1
          replace hB0 := below_then hB0 hB0.size hb1
          clear hb1
          obtain ⟨ca0, ca1, ca2, ca3⟩ := id ca
          obtain ⟨cb0, cb1, cb2, cb3⟩ := id cb
          go_wp2_with fail
          refine (hm1.out _).mono ?_
          rintro e w3 ⟨rfl, rfl⟩
          go_wp2_with fail
          refine (hm2.out _).mono ?_
          rintro e w4 ⟨rfl, rfl⟩
          go_wp2
          go_ret
          exact ⟨by rw [← HL.out, hv.out]; rfl, hB0⟩
end Go.Proofs.Ytnjmllkcodppgaa
