/- Reading a band, an array of two times, an array of three bands that came in by value. -/
import Derived.Test.YtnjmllkcodppgaaR
namespace Go.Proofs.Ytnjmllkcodppgaa
open Go.RowKit Go.ChangeShapes Go.WideShapes Go.Deep Go.ChangeAt Go.Joins
set_option linter.unusedVariables false

theorem okWide_array {P : Program} {w : World} {r : Reach} {base : Nat} {t e : TypeId} {n : Nat} {v : Value} (ht : P.underlying t = some (.array n e)) (h : Value.okWide P w r base t v) : ∃ cs, v = .agg cs ∧ cs.size = P.cellsOf t := by
  simp only [Value.okWide, ht] at h
  obtain ⟨cs, h1, h2, _⟩ := h
  exact ⟨cs, h1, h2⟩

section
variable {H : Type} {enc : TypeId × Value → H} {W : World} {base : Nat} {spare : Nat → Bool} {held : Bool}
theorem read_four {fuel : Nat} {cs : List Value} {x : DataW H × List MemPlace} (h : DataW.trod enc Try.prog W base spare held fuel 24 cs = some x) :
    ∃ b : BI, cs = [.int .i64 b.used, .int .i64 b.live, .int .u64 b.age, .int .u64 b.wear] ∧ okB b := by
  obtain ⟨xs, n, _, _, hl, hlen, hg⟩ := DataW.trod_struct under24 h
  have hl4 : cs.length = 4 := hl.trans (by kernel_rfl)
  match cs, hl4 with
  | [c0, c1, c2, c3], _ =>
    have q3 : Try.prog.cellsOf 3 = 1 := by kernel_rfl
    have q22 : Try.prog.cellsOf 22 = 1 := by kernel_rfl
    match xs, hlen with
    | [y0, y1, y2, y3], _ =>
      have t0 : DataW.trod enc Try.prog W base spare held n 3 [c0] = some y0 := by simpa [q3] using hg 0 _ rfl
      have t1 : DataW.trod enc Try.prog W base spare held n 3 [c1] = some y1 := by simpa [q3] using hg 1 _ rfl
      have t2 : DataW.trod enc Try.prog W base spare held n 22 [c2] = some y2 := by simpa [q22] using hg 2 _ rfl
      have t3 : DataW.trod enc Try.prog W base spare held n 22 [c3] = some y3 := by simpa [q22] using hg 3 _ rfl
      obtain ⟨n0, e0, _, g0⟩ := DataW.trod_int Try.underlying3 t0
      obtain ⟨n1, e1, _, g1⟩ := DataW.trod_int Try.underlying3 t1
      obtain ⟨n2, e2, _, g2⟩ := DataW.trod_int Try.underlying22 t2
      obtain ⟨n3, e3, _, g3⟩ := DataW.trod_int Try.underlying22 t3
      cases e0; cases e1; cases e2; cases e3
      exact ⟨⟨n0, n1, n2, n3⟩, rfl, g0, g1, g2, g3⟩
theorem read_band {b0 : Nat} {v : Value} {d : DataW H} {ps : List MemPlace} (hv : Value.okWide Try.prog W .any b0 24 v) (h : DataW.Trod enc Try.prog W base spare held 24 v d ps) :
    ∃ b : BI, v = .agg #[.int .i64 b.used, .int .i64 b.live, .int .u64 b.age, .int .u64 b.wear] ∧ okB b := by
  obtain ⟨⟨cs⟩, rfl, _⟩ := okWide_struct under24 hv
  obtain ⟨fuel, hf⟩ := h
  obtain ⟨b, e, hb⟩ := read_four (by simpa [Value.cells] using hf)
  exact ⟨b, by rw [e], hb⟩
theorem read_two {b0 : Nat} {v : Value} {d : DataW H} {ps : List MemPlace} (hv : Value.okWide Try.prog W .any b0 25 v) (h : DataW.Trod enc Try.prog W base spare held 25 v d ps) :
    ∃ x y : Int, v = .agg #[.int .u64 x, .int .u64 y] ∧ (Lit.int .u64 x).wf = true ∧ (Lit.int .u64 y).wf = true := by
  obtain ⟨⟨cs⟩, rfl, hs⟩ := okWide_array Try.underlying25 hv
  obtain ⟨fuel, hf⟩ := h
  obtain ⟨xs, m, _, _, hl, hlen, hg⟩ := DataW.trod_array Try.underlying25 hf
  have hl2 : cs.length = 2 := by simpa [Value.cells] using hl.trans (by kernel_rfl : Try.prog.cellsOf 25 = 2)
  have k0 : Try.prog.cellsOf 22 = 1 := by kernel_rfl
  match cs, hl2 with
  | [c0, c1], _ =>
    match xs, hlen with
    | [y0, y1], _ =>
      have t0 : DataW.trod enc Try.prog W base spare held m 22 [c0] = some y0 := by simpa [k0, Value.cells] using hg 0 (by omega)
      have t1 : DataW.trod enc Try.prog W base spare held m 22 [c1] = some y1 := by simpa [k0, Value.cells] using hg 1 (by omega)
      obtain ⟨n0, e0, _, g0⟩ := DataW.trod_int Try.underlying22 t0
      obtain ⟨n1, e1, _, g1⟩ := DataW.trod_int Try.underlying22 t1
      cases e0; cases e1
      exact ⟨n0, n1, rfl, g0, g1⟩
theorem read_three {b0 : Nat} {v : Value} {d : DataW H} {ps : List MemPlace} (hv : Value.okWide Try.prog W .any b0 36 v) (h : DataW.Trod enc Try.prog W base spare held 36 v d ps) :
    ∃ a b c : BI, v = .agg #[.int .i64 a.used, .int .i64 a.live, .int .u64 a.age, .int .u64 a.wear, .int .i64 b.used, .int .i64 b.live, .int .u64 b.age, .int .u64 b.wear, .int .i64 c.used, .int .i64 c.live, .int .u64 c.age, .int .u64 c.wear] ∧ okB a ∧ okB b ∧ okB c := by
  obtain ⟨⟨cs⟩, rfl, hs⟩ := okWide_array Try.underlying36 hv
  obtain ⟨fuel, hf⟩ := h
  obtain ⟨xs, m, _, _, hl, hlen, hg⟩ := DataW.trod_array Try.underlying36 hf
  have hl12 : cs.length = 12 := by simpa [Value.cells] using hl.trans (by kernel_rfl : Try.prog.cellsOf 36 = 12)
  have k0 : Try.prog.cellsOf 24 = 4 := by kernel_rfl
  match cs, hl12 with
  | [c0, c1, c2, c3, c4, c5, c6, c7, c8, c9, c10, c11], _ =>
    match xs, hlen with
    | [y0, y1, y2], _ =>
      have t0 : DataW.trod enc Try.prog W base spare held m 24 [c0, c1, c2, c3] = some y0 := by simpa [k0, Value.cells] using hg 0 (by omega)
      have t1 : DataW.trod enc Try.prog W base spare held m 24 [c4, c5, c6, c7] = some y1 := by simpa [k0, Value.cells] using hg 1 (by omega)
      have t2 : DataW.trod enc Try.prog W base spare held m 24 [c8, c9, c10, c11] = some y2 := by simpa [k0, Value.cells] using hg 2 (by omega)
      obtain ⟨a, e0, g0⟩ := read_four t0
      obtain ⟨b, e1, g1⟩ := read_four t1
      obtain ⟨c, e2, g2⟩ := read_four t2
      cases e0; cases e1; cases e2
      exact ⟨a, b, c, rfl, g0, g1, g2⟩
end
end Go.Proofs.Ytnjmllkcodppgaa
